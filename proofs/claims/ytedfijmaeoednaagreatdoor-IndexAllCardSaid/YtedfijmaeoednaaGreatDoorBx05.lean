/- A key is put into a leaf. Conditions: a leaf in memory, its keys rising. Putting into and cutting out of a balanced tree, as lists: what it has, in order, and how great its nodes are. No program. No conditions. A node of children: what its cells are, and one of its children taken out. Conditions: a node in memory. -/
import Derived.Test.YtedfijmaeoednaaGreatDoorBx04
import Derived.BigRegion
namespace Go.Proofs.YtedfijmaeoednaaGreatDoor
open Go.RowKit Go.Wh

def ridV (v : Rid) : Value := .agg #[.int .i64 v.1, .int .i64 v.2]

def putLeaf (ks : List Key) (vs : List Rid) (k : Key) (v : Rid) : List Key × List Rid :=
  if hasK ks k then (ks, vs.set (pos ks k) v) else (ks.take (pos ks k) ++ k :: ks.drop (pos ks k), vs.take (pos ks k) ++ v :: vs.drop (pos ks k))

def RawPost (w : World) (r : Nat) (ks : List Key) (vs : List Rid) (cs : List Nat) (F : List Nat) (v : Value) (e : Ending) (w' : World) : Prop :=
  ∃ F', e = .returned v ∧ Raw w' r ks vs cs F' ∧ Only (fun b => b ∈ F) w w' ∧ ∀ b ∈ F', b ∈ F ∨ w.heap.size ≤ b

theorem found_post {w : World} {r : Nat} {ks : List Key} {vs : List Rid} {F : List Nat} {kv cv : Value} {g o vc i n : Nat} {vp vq : Int} {b : Value} (hnd : NodeAt w r kv (.slice (some ⟨g, o, none⟩) n vc) cv ks vs [])
    (hn : vs.length = n) (hF : F = foot r kv (.slice (some ⟨g, o, none⟩) n vc) cv ∧ F.Nodup ∧ ∀ b ∈ F, b < w.heap.size) (hi : i < vs.length) (ob : Obj) :
    RawPost w r ks (vs.set i (vp, vq)) [] F b (.returned b) (((w.alloc ob).setCell ⟨g, o + i * 2, none⟩ (.int .i64 vp)).setCell ⟨g, o + i * 2 + 1, none⟩ (.int .i64 vq)).drew := by
  obtain ⟨rfl, hd, hlt⟩ := hF
  have hA := foot_nodup.1 hd
  have ha := hnd.alloc ob
  have hva := ha.v
  rw [hn] at hva
  have h1 := hva.at.set (i * 2) (by omega) (.int .i64 vp)
  have h2 := h1.set (i * 2 + 1) (by omega) (.int .i64 vq)
  rw [rcells_set vs i (vp, vq) hi] at h2
  have hgr : r ≠ g := fun e => hA.rv g rfl e.symm
  have hgk : kv.ownBlock ≠ some g := fun e => hA.akv g e rfl
  have hgc : cv.ownBlock ≠ some g := fun e => hA.avc g rfl e
  have hN : NodeAt (((w.alloc ob).setCell ⟨g, o + i * 2, none⟩ (.int .i64 vp)).setCell ⟨g, o + (i * 2 + 1), none⟩ (.int .i64 vq)) r kv (.slice (some ⟨g, o, none⟩) n vc) cv ks (vs.set i (vp, vq)) [] := by
    refine ⟨((ha.cells.setOther (p := ⟨g, o + i * 2, none⟩) hgr _).setOther (p := ⟨g, o + (i * 2 + 1), none⟩) hgr _), vec_set (vec_set ha.k (p := ⟨g, o + i * 2, none⟩) hgk _) (p := ⟨g, o + (i * 2 + 1), none⟩) hgk _, ?_, vec_set (vec_set ha.c (p := ⟨g, o + i * 2, none⟩) hgc _) (p := ⟨g, o + (i * 2 + 1), none⟩) hgc _⟩
    rw [List.length_set, hn]
    exact .inr ⟨_, _, _, rfl, h2⟩
  have hgF : g ∈ foot r kv (.slice (some ⟨g, o, none⟩) n vc) cv := mem_foot.2 (.inr (.inr (.inl rfl)))
  have hO : Only (fun b => b ∈ foot r kv (.slice (some ⟨g, o, none⟩) n vc) cv) w (((w.alloc ob).setCell ⟨g, o + i * 2, none⟩ (.int .i64 vp)).setCell ⟨g, o + (i * 2 + 1), none⟩ (.int .i64 vq)) :=
    (((Only.refl _ w).alloc ob).setCell (.inl hgF) _).setCell (.inl hgF) _
  rw [← Nat.add_assoc] at hN hO
  have hO' := hO.drew
  have hN' : NodeAt ((((w.alloc ob).setCell ⟨g, o + i * 2, none⟩ (.int .i64 vp)).setCell ⟨g, o + i * 2 + 1, none⟩ (.int .i64 vq)).drew) r kv (.slice (some ⟨g, o, none⟩) n vc) cv ks (vs.set i (vp, vq)) [] :=
    hN.only (Only.drew (Only.refl (fun _ => False) _)) fun _ _ e => e
  exact ⟨_, rfl, Raw.of hN' hA fun b hb => Nat.lt_of_lt_of_le (hlt b hb) hO'.size, hO', fun b hb => .inl hb⟩

/-- What an insertion or a deletion has left, told from an earlier world on: S has turned before. -/
structure Turn (W : World) (S : Nat → Prop) (size n : Nat) (v : Value) (xs : List Value) (v' : Value) (w0 w2 : World) : Prop where
  vec : Vec w2 size v' n xs
  only : Only (fun b => S b ∨ v.ownBlock = some b) W w2
  step : Only (fun b => v.ownBlock = some b) w0 w2
  own : v'.ownBlock = v.ownBlock ∨ ∃ g, v'.ownBlock = some g ∧ w0.heap.size ≤ g ∧ g < w2.heap.size
  low : W.heap.size ≤ w0.heap.size
  keep : ∀ b l, W.heap.size ≤ b → cellsAt w0 b l → cellsAt w2 b l

theorem turn_of {W w0 w2 : World} {S : Nat → Prop} {size n : Nat} {v : Value} {xs : List Value} {e : Ending} (h : TurnedPost w0 v size n xs e w2) (hs : Only S W w0) (hown : ∀ b, v.ownBlock = some b → b < W.heap.size) :
    ∃ a c, e = .returned (.slice a n c) ∧ Turn W S size n v xs (.slice a n c) w0 w2 := by
  obtain ⟨v', rfl, hv, ho, hb⟩ := h
  obtain ⟨a, c, rfl⟩ := hv.form'
  exact ⟨a, c, rfl, hv, (hs.mono fun _ e => .inl e).trans (ho.mono fun _ e => .inr e), ho, hb, hs.size, fun b l hb' hc' => hc'.only ho fun e => by have := hown b e; omega⟩

/-- A slice value that stands for another one: in its block, or in a new one. -/
def Nw (N M : Nat) (v v' : Value) : Prop := v'.ownBlock = v.ownBlock ∨ ∃ g, v'.ownBlock = some g ∧ N ≤ g ∧ g < M
theorem Nw.refl (N M : Nat) (v : Value) : Nw N M v v := .inl rfl
theorem Nw.cases {N M : Nat} {v v' : Value} (h : Nw N M v v') {b : Nat} (hb : v'.ownBlock = some b) : v.ownBlock = some b ∨ (N ≤ b ∧ b < M) := by
  rcases h with h | ⟨g, h, h1, h2⟩
  · exact .inl (h ▸ hb)
  · rw [h] at hb
    injection hb with hb
    exact .inr (hb ▸ ⟨h1, h2⟩)
theorem Turn.nw {W w0 w2 : World} {S : Nat → Prop} {size n M : Nat} {v v' : Value} {xs : List Value} (h : Turn W S size n v xs v' w0 w2) (hM : w2.heap.size ≤ M) : Nw W.heap.size M v v' := by
  rcases h.own with h' | ⟨g, h', h1, h2⟩
  · exact .inl h'
  · exact .inr ⟨g, h', Nat.le_trans h.low h1, Nat.lt_of_lt_of_le h2 hM⟩

/-- The node's slices turn. -/
theorem raw_turn {W w4 : World} {r : Nat} {kv vv cv kv' vv' cv' : Value} {ks ks' : List Key} {vs vs' : List Rid} {cs cs' F : List Nat} (hn : NodeAt W r kv vv cv ks vs cs) (hF : F = foot r kv vv cv ∧ F.Nodup ∧ ∀ b ∈ F, b < W.heap.size)
    (ho : Only (fun b => b ∈ F) W w4) (hc : cellsAt w4 r [kv', vv', cv']) (k : Vec w4 1 kv' ks'.length (kcells ks')) (v : Vec w4 2 vv' vs'.length (rcells vs')) (c : Vec w4 1 cv' cs'.length (pcells cs'))
    (nk : Nw W.heap.size w4.heap.size kv kv') (nv : Nw W.heap.size w4.heap.size vv vv') (nc : Nw W.heap.size w4.heap.size cv cv')
    (hkv : ∀ g, W.heap.size ≤ g → kv'.ownBlock = some g → vv'.ownBlock ≠ some g) (hkc : ∀ g, W.heap.size ≤ g → kv'.ownBlock = some g → cv'.ownBlock ≠ some g) (hvc : ∀ g, W.heap.size ≤ g → vv'.ownBlock = some g → cv'.ownBlock ≠ some g) :
    ∃ F', Raw w4 r ks' vs' cs' F' ∧ ∀ b ∈ F', b ∈ F ∨ W.heap.size ≤ b := by
  obtain ⟨rfl, hd, hlt⟩ := hF
  have hA := foot_nodup.1 hd
  have hr := hlt r (mem_foot.2 (.inl rfl))
  have lk := fun b h => hlt b (mem_foot.2 (.inr (.inl h)))
  have lv := fun b h => hlt b (mem_foot.2 (.inr (.inr (.inl h))))
  have lc := fun b h => hlt b (mem_foot.2 (.inr (.inr (.inr h))))
  have hA' : Apt r kv' vv' cv' := by
    refine ⟨fun b h e => ?_, fun b h e => ?_, fun b h e => ?_, fun b h e => ?_, fun b h e => ?_, fun b h e => ?_⟩
    · rcases nk.cases h with h1 | h1
      · exact hA.rk b h1 e
      · omega
    · rcases nv.cases h with h1 | h1
      · exact hA.rv b h1 e
      · omega
    · rcases nc.cases h with h1 | h1
      · exact hA.rc b h1 e
      · omega
    · rcases nk.cases h with h1 | h1
      · rcases nv.cases e with h2 | h2
        · exact hA.akv b h1 h2
        · have := lk b h1; omega
      · exact hkv b h1.1 h e
    · rcases nk.cases h with h1 | h1
      · rcases nc.cases e with h2 | h2
        · exact hA.akc b h1 h2
        · have := lk b h1; omega
      · exact hkc b h1.1 h e
    · rcases nv.cases h with h1 | h1
      · rcases nc.cases e with h2 | h2
        · exact hA.avc b h1 h2
        · have := lv b h1; omega
      · exact hvc b h1.1 h e
  have hm : ∀ b ∈ foot r kv' vv' cv', (b ∈ foot r kv vv cv ∨ W.heap.size ≤ b) ∧ b < w4.heap.size := fun b hb => by
    have hs := ho.size
    rcases mem_foot.1 hb with rfl | h | h | h
    · exact ⟨.inl (mem_foot.2 (.inl rfl)), by omega⟩
    · rcases nk.cases h with h1 | h1
      · exact ⟨.inl (mem_foot.2 (.inr (.inl h1))), by have := lk b h1; omega⟩
      · exact ⟨.inr h1.1, h1.2⟩
    · rcases nv.cases h with h1 | h1
      · exact ⟨.inl (mem_foot.2 (.inr (.inr (.inl h1)))), by have := lv b h1; omega⟩
      · exact ⟨.inr h1.1, h1.2⟩
    · rcases nc.cases h with h1 | h1
      · exact ⟨.inl (mem_foot.2 (.inr (.inr (.inr h1)))), by have := lc b h1; omega⟩
      · exact ⟨.inr h1.1, h1.2⟩
  exact ⟨_, Raw.of ⟨hc, k, v, c⟩ hA' fun b hb => (hm b hb).2, fun b hb => (hm b hb).1⟩

/-- Keys and places turn, one behind the other, and are stored. -/
theorem two_turned {w W w0 w1 w2 w3 : World} {r n m : Nat} {kv vv cv v1 v2 : Value} {ks ks' : List Key} {vs vs' : List Rid} {cs F : List Nat} (hn : NodeAt W r kv vv cv ks vs cs) (hF : F = foot r kv vv cv ∧ F.Nodup ∧ ∀ b ∈ F, b < w.heap.size) (hw : Still w W)
    (T1 : Turn W (fun _ => False) 1 n kv (kcells ks') v1 w0 w1) (T2 : Turn W (fun b => False ∨ kv.ownBlock = some b) 2 m vv (rcells vs') v2 w2 w3) (hs : Still w1 w2) (hn1 : n = ks'.length) (hm : m = vs'.length) (b : Value) :
    RawPost w r ks' vs' cs F b (.returned b) ((w3.setCell ⟨r, 0, none⟩ v1).setCell ⟨r, 1, none⟩ v2) := by
  subst hn1 hm
  have hF' : F = foot r kv vv cv ∧ F.Nodup ∧ ∀ b ∈ F, b < W.heap.size := ⟨hF.1, hF.2.1, fun b hb => Nat.lt_of_lt_of_le (hF.2.2 b hb) hw.size⟩
  have hA := foot_nodup.1 (hF.1 ▸ hF.2.1)
  have hr : r < W.heap.size := hF'.2.2 r (hF.1 ▸ mem_foot.2 (.inl rfl))
  have lk := fun b h => hF'.2.2 b (hF.1 ▸ mem_foot.2 (.inr (.inl h)))
  have lv := fun b h => hF'.2.2 b (hF.1 ▸ mem_foot.2 (.inr (.inr (.inl h))))
  have lc := fun b h => hF'.2.2 b (hF.1 ▸ mem_foot.2 (.inr (.inr (.inr h))))
  have hsz : w1.heap.size ≤ w3.heap.size := Nat.le_trans hs.size T2.step.size
  have n1 := T1.nw (M := w3.heap.size) hsz
  have n2 := T2.nw (M := w3.heap.size) (Nat.le_refl _)
  have o1 : v1.ownBlock ≠ some r := fun e => by
    rcases n1.cases e with h | h
    · exact hA.rk r h rfl
    · omega
  have o2 : v2.ownBlock ≠ some r := fun e => by
    rcases n2.cases e with h | h
    · exact hA.rv r h rfl
    · omega
  have hv1 : Vec w3 1 v1 ks'.length (kcells ks') := (T1.vec.only hs fun _ _ e => e).only T2.step fun g hg e => by
    rcases n1.cases hg with h | h
    · exact hA.akv g h e
    · have := lv g e; omega
  have hcell : cellsAt w3 r [kv, vv, cv] := hn.cells.only T2.only fun e => by
    rcases e with (e | e) | e
    · exact e
    · exact hA.rk r e rfl
    · exact hA.rv r e rfl
  have hcv : Vec w3 1 cv cs.length (pcells cs) := hn.c.only T2.only fun g hg e => by
    rcases e with (e | e) | e
    · exact e
    · exact hA.akc g e hg
    · exact hA.avc g e hg
  have hc4 : cellsAt ((w3.setCell ⟨r, 0, none⟩ v1).setCell ⟨r, 1, none⟩ v2) r [v1, v2, cv] := (hcell.setCell 0 v1).setCell 1 v2
  have ho : Only (fun b => b ∈ F) W ((w3.setCell ⟨r, 0, none⟩ v1).setCell ⟨r, 1, none⟩ v2) :=
    ((T2.only.mono fun b e => by
      rw [hF.1]
      rcases e with (e | e) | e
      · exact e.elim
      · exact mem_foot.2 (.inr (.inl e))
      · exact mem_foot.2 (.inr (.inr (.inl e)))).setCell (p := ⟨r, 0, none⟩) (.inl (hF.1 ▸ mem_foot.2 (.inl rfl))) v1).setCell (p := ⟨r, 1, none⟩) (.inl (hF.1 ▸ mem_foot.2 (.inl rfl))) v2
  have hz : ((w3.setCell ⟨r, 0, none⟩ v1).setCell ⟨r, 1, none⟩ v2).heap.size = w3.heap.size := by simp [World.setCell]
  obtain ⟨F', h1, h2⟩ := raw_turn (ks' := ks') (vs' := vs') (cs' := cs) hn hF' ho hc4 (vec_set (vec_set hv1 (p := ⟨r, 0, none⟩) o1 _) (p := ⟨r, 1, none⟩) o1 _) (vec_set (vec_set T2.vec (p := ⟨r, 0, none⟩) o2 _) (p := ⟨r, 1, none⟩) o2 _)
    (vec_set (vec_set hcv (p := ⟨r, 0, none⟩) (fun e => hA.rc r e rfl) _) (p := ⟨r, 1, none⟩) (fun e => hA.rc r e rfl) _) (hz ▸ n1) (hz ▸ n2) (Nw.refl _ _ _)
    (fun g hg e1 e2 => by
      rcases T2.own with h | ⟨g', h, h3, _⟩
      · have := lv g (h ▸ e2); omega
      · rw [h] at e2
        injection e2 with e2
        rcases T1.own with h4 | ⟨g2, h4, _, h5⟩
        · have := lk g (h4 ▸ e1); omega
        · rw [h4] at e1
          injection e1 with e1
          have := hs.size
          omega)
    (fun g hg _ e2 => by have := lc g e2; omega) (fun g hg _ e2 => by have := lc g e2; omega)
  exact ⟨F', rfl, h1, (hw.only (S := fun b => b ∈ F)).trans ho, fun b hb => (h2 b hb).imp id fun h => Nat.le_trans hw.size h⟩

theorem kcells_ins (ks : List Key) (i : Nat) (k : Key) : (kcells ks).take (i * 1) ++ [.string k] ++ (kcells ks).drop (i * 1) = kcells (ks.take i ++ k :: ks.drop i) := by
  simp [kcells, List.map_take, List.map_drop]
theorem rcells_ins (vs : List Rid) (i : Nat) (v : Rid) : (rcells vs).take (i * 2) ++ [.int .i64 v.1, .int .i64 v.2] ++ (rcells vs).drop (i * 2) = rcells (vs.take i ++ v :: vs.drop i) := by
  rw [rcells_take, rcells_drop, rcells_append, rcells_cons]
  simp

set_option maxHeartbeats 1000000 in
set_option maxRecDepth 100000 in
theorem put_leaf (w : World) (r : Nat) (ks : List Key) (vs : List Rid) (F : List Nat) (k : Key) (v : Rid) (h : Raw w r ks vs [] F) (hs : KS ks) (hl : vs.length = ks.length) (hn : ks.length ≤ 100) :
    Calls Tryz.prog 47 #[ptr r, .string k, ridV v] w (RawPost w r (putLeaf ks vs k v).1 (putLeaf ks vs k v).2 [] F (.bool !(hasK ks k))) := by
  obtain ⟨kv, vv, cv, hnd, hF, hd, hlt⟩ := h
  obtain ⟨ca, cc, rfl⟩ := hnd.c.form'
  obtain ⟨ka, kc, rfl⟩ := hnd.k.form'
  obtain ⟨va, vc, rfl⟩ := hnd.v.form'
  obtain ⟨vp, vq⟩ := v
  have hrw : r < w.heap.size := lt_of_cell (hnd.cells.cell 0)
  have hn1 : ∀ ob, NodeAt (w.alloc ob) r _ _ _ ks vs [] := fun ob => hnd.alloc ob
  have c0 : ∀ ob, (w.alloc ob).cell? ⟨r, 0, none⟩ = some (.slice ka ks.length kc) := fun ob => (hn1 ob).cells.cell 0
  have c1 : ∀ ob, (w.alloc ob).cell? ⟨r, 1, none⟩ = some (.slice va vs.length vc) := fun ob => (hn1 ob).cells.cell 1
  have c2 : ∀ ob, (w.alloc ob).cell? ⟨r, 2, none⟩ = some (.slice ca 0 cc) := fun ob => (hn1 ob).cells.cell 2
  have HS := Lib.hid (fun ob => search_any (.slice ka ks.length kc) ks.length ks k (w.alloc ob) (hn1 ob).k hs (by omega))
  have HN := Lib.hid hnd
  have HF := Lib.hid (And.intro hF (And.intro hd hlt))
  clear hnd hn1 hF hd hlt
  unfold ptr ridV
  go_enter Tryz.func47, Tryz.ntmps47
  go_wp2_with fail
  refine (HS.out _).mono ?_
  rintro e w1 ⟨rfl, rfl⟩
  clear HS
  cases hk : hasK ks k with
  | true =>
    have hget : ks[pos ks k]? = some k := by simpa [hasK] using hk
    obtain ⟨i, hi⟩ : ∃ i, pos ks k = i := ⟨_, rfl⟩
    have hil : i < ks.length := by rw [← hi]; exact (List.getElem?_eq_some_iff.1 hget).1
    have hvl : i < vs.length := by omega
    obtain ⟨g, o, cap, hve, hv⟩ := HN.out.v.form (by omega)
    injection hve with hva _ hvc
    subst hva hvc
    have hroom := fun (j : Nat) (hj : j < vs.length * 2) (ob : Obj) => And.intro ((HN.out.alloc ob).v.at.cell j hj) ((HN.out.alloc ob).v.at.free j hj)
    have hr0 := rcells_get vs i vs[i] (List.getElem?_eq_getElem hvl)
    have e0 : ∀ ob, (w.alloc ob).cell? ⟨g, o + i * 2, none⟩ = some (.int .i64 vs[i].1) := fun ob => ((hroom (i * 2) (by omega) ob).1).trans hr0.1
    have e1 : ∀ ob, (w.alloc ob).cell? ⟨g, o + i * 2 + 1, none⟩ = some (.int .i64 vs[i].2) := fun ob => by rw [Nat.add_assoc]; exact ((hroom (i * 2 + 1) (by omega) ob).1).trans hr0.2
    have f0 : ∀ ob, (w.alloc ob).frozen? ⟨g, o + i * 2, none⟩ = false := fun ob => (hroom (i * 2) (by omega) ob).2
    have f1 : ∀ ob, (w.alloc ob).frozen? ⟨g, o + i * 2 + 1, none⟩ = false := fun ob => by rw [Nat.add_assoc]; exact (hroom (i * 2 + 1) (by omega) ob).2
    have d0 : ∀ tt, (w.alloc (.cells #[.int .i64 vp, .int .i64 vq] tt)).cell? ⟨w.heap.size, 0, none⟩ = some (.int .i64 vp) := fun tt => (cellsAt_new w [.int .i64 vp, .int .i64 vq] tt).cell 0
    have d1 : ∀ tt, (w.alloc (.cells #[.int .i64 vp, .int .i64 vq] tt)).cell? ⟨w.heap.size, 1, none⟩ = some (.int .i64 vq) := fun tt => (cellsAt_new w [.int .i64 vp, .int .i64 vq] tt).cell 1
    have b1 : (i : Int) < (vs.length : Int) := by omega
    have b0 : (0 : Int) ≤ (i : Int) := by omega
    rw [hi]
    have HI := Lib.hid hi
    clear hroom hr0 hget hi
    go_wp2_with fail
    go_region
    go_wp2_with fail
    have hpl : putLeaf ks vs k (vp, vq) = (ks, vs.set i (vp, vq)) := by unfold putLeaf; rw [hk, HI.out]; rfl
    rw [hpl, hk]
    go_ret
    exact found_post HN.out rfl HF.out hvl _
  | false =>
    obtain ⟨i, hi⟩ : ∃ i, pos ks k = i := ⟨_, rfl⟩
    have hil : i ≤ ks.length := by rw [← hi]; exact pos_le ks k
    have HI := Lib.hid hi
    rw [hi]
    clear hi
    generalize hW : w.alloc _ = W
    have hnW : NodeAt W r _ _ _ ks vs [] := hW ▸ HN.out.alloc _
    have hbx : cellsAt W w.heap.size [.int .i64 vp, .int .i64 vq] := hW ▸ cellsAt_new w [.int .i64 vp, .int .i64 vq] _
    have hoW : Still w W := hW ▸ (Only.refl _ w).alloc _
    have HLW := Lib.hid (fun b (hb : b < w.heap.size) => Nat.lt_of_lt_of_le hb hoW.size)
    generalize hbq : w.heap.size = bx at *
    have s0 : W.cell? ⟨r, 0, none⟩ = some (.slice ka ks.length kc) := hnW.cells.cell 0
    have s1 : W.cell? ⟨r, 1, none⟩ = some (.slice va vs.length vc) := hnW.cells.cell 1
    have s2 : W.cell? ⟨bx, 0, none⟩ = some (.int .i64 vp) := hbx.cell 0
    have s3 : W.cell? ⟨bx, 1, none⟩ = some (.int .i64 vq) := hbx.cell 1
    have s4 : W.frozen? ⟨r, 0, none⟩ = false := hnW.cells.free 0
    have s5 : W.frozen? ⟨r, 1, none⟩ = false := hnW.cells.free 1
    have HW := Lib.hid (And.intro hnW (And.intro hbx hoW))
    clear hnW hbx hoW c0 c1 c2 hW
    obtain ⟨kv, hkv⟩ : ∃ kv, kv = Value.slice ka ks.length kc := ⟨_, rfl⟩
    obtain ⟨vv, hvv⟩ : ∃ vv, vv = Value.slice va vs.length vc := ⟨_, rfl⟩
    have hA := foot_nodup.1 (HF.out.1 ▸ HF.out.2.1)
    have hlt : ∀ b, kv.ownBlock = some b → b < W.heap.size := fun b hb => HLW.out b (HF.out.2.2 b (by rw [HF.out.1]; exact mem_foot.2 (.inr (.inl (hkv ▸ hb)))))
    have hlt2 : ∀ b, vv.ownBlock = some b → b < W.heap.size := fun b hb => HLW.out b (HF.out.2.2 b (by rw [HF.out.1]; exact mem_foot.2 (.inr (.inr (.inl (hvv ▸ hb))))))
    have HI1 := Lib.hid (fun w' (hs : Only (fun _ => False) W w') vb (hc : cellsAt w' vb [.string k]) (hg : W.heap.size ≤ vb) =>
      (insert_s (.slice ka ks.length kc) ks.length (kcells ks) vb [.string k] i w' (HW.out.1.k.only hs fun _ _ e => e) hc rfl (kcells_one ks) (by intro u hu; simp at hu; subst hu; rfl) (fun e => by have := hlt vb (hkv ▸ e); omega) hil (by omega)).mono
        (fun e w2 h => turn_of (kcells_ins ks i k ▸ h) hs (fun b hb => hlt b (hkv ▸ hb))))
    have HI2 := Lib.hid (fun w' (hs : Only (fun b => False ∨ (Value.slice ka ks.length kc).ownBlock = some b) W w') vb (hc : cellsAt w' vb [.int .i64 vp, .int .i64 vq]) (hg : W.heap.size ≤ vb) =>
      (insert_r (.slice va vs.length vc) vs.length (rcells vs) vb [.int .i64 vp, .int .i64 vq] i w' (HW.out.1.v.only hs fun b hb e => by rcases e with e | e; exact e; exact hA.akv b e hb) hc rfl (rcells_one vs) (by intro u hu; simp at hu; rcases hu with rfl | rfl <;> rfl) (fun e => by have := hlt2 vb (hvv ▸ e); omega) (by omega) (by omega)).mono
        (fun e w2 h => turn_of (rcells_ins vs i (vp, vq) ▸ h) hs (fun b hb => hlt2 b (hvv ▸ hb))))
    have hbxk : ∀ b, kv.ownBlock = some b → b ≠ bx := fun b hb e => by
      have := HF.out.2.2 b (by rw [HF.out.1]; exact mem_foot.2 (.inr (.inl (hkv ▸ hb))))
      omega
    have hbxv : ∀ b, vv.ownBlock = some b → b ≠ bx := fun b hb e => by
      have := HF.out.2.2 b (by rw [HF.out.1]; exact mem_foot.2 (.inr (.inr (.inl (hvv ▸ hb)))))
      omega
    have HS2 := Lib.hid (fun w' (hs : Only (fun b => (False ∨ (Value.slice ka ks.length kc).ownBlock = some b) ∨ (Value.slice va vs.length vc).ownBlock = some b) W w') =>
      show w'.cell? ⟨r, 0, none⟩ = some (.slice ka ks.length kc) ∧ w'.cell? ⟨r, 1, none⟩ = some (.slice va vs.length vc) ∧ w'.cell? ⟨bx, 0, none⟩ = some (.int .i64 vp) ∧ w'.cell? ⟨bx, 1, none⟩ = some (.int .i64 vq) from by
        have hr : ¬ ((False ∨ (Value.slice ka ks.length kc).ownBlock = some r) ∨ (Value.slice va vs.length vc).ownBlock = some r) := fun e => by
          rcases e with (e | e) | e
          · exact e
          · exact hA.rk r e rfl
          · exact hA.rv r e rfl
        have hb : ¬ ((False ∨ (Value.slice ka ks.length kc).ownBlock = some bx) ∨ (Value.slice va vs.length vc).ownBlock = some bx) := fun e => by
          rcases e with (e | e) | e
          · exact e
          · exact hbxk bx (hkv ▸ e) rfl
          · exact hbxv bx (hvv ▸ e) rfl
        have h1 := HW.out.1.cells.lt
        have h2 := HW.out.2.1.lt
        exact ⟨(hs.cell (p := ⟨r, 0, none⟩) h1 hr).trans s0, (hs.cell (p := ⟨r, 1, none⟩) h1 hr).trans s1, (hs.cell (p := ⟨bx, 0, none⟩) h2 hb).trans s2, (hs.cell (p := ⟨bx, 1, none⟩) h2 hb).trans s3⟩)
    have HZ := Lib.hid (fun w' (hs : Only (fun b => (False ∨ (Value.slice ka ks.length kc).ownBlock = some b) ∨ (Value.slice va vs.length vc).ownBlock = some b) W w') =>
      show w'.cell? ⟨r, 0, none⟩ = some (.slice ka ks.length kc) ∧ w'.cell? ⟨r, 1, none⟩ = some (.slice va vs.length vc) ∧ w'.frozen? ⟨r, 0, none⟩ = false ∧ w'.frozen? ⟨r, 1, none⟩ = false from by
        have hr : ¬ ((False ∨ (Value.slice ka ks.length kc).ownBlock = some r) ∨ (Value.slice va vs.length vc).ownBlock = some r) := fun e => by
          rcases e with (e | e) | e
          · exact e
          · exact hA.rk r e rfl
          · exact hA.rv r e rfl
        have h1 := HW.out.1.cells.lt
        exact ⟨(HS2.out w' hs).1, (HS2.out w' hs).2.1, (hs.frozen (p := ⟨r, 0, none⟩) h1 hr).trans s4, (hs.frozen (p := ⟨r, 1, none⟩) h1 hr).trans s5⟩)
    have K1 := Lib.hid (fun tt => show cellsAt (W.alloc (.cells #[.string k] tt)).drew W.heap.size [.string k] from cellsAt_new W [.string k] tt)
    have K2 := Lib.hid (fun tt B => show cellsAt ((W.alloc (.cells #[.string k] tt)).alloc B).drew W.heap.size [.string k] from (cellsAt_new W [.string k] tt).alloc B)
    have K3 := Lib.hid (fun tt B => show cellsAt ((W.alloc B).alloc (.cells #[.string k] tt)).drew (W.heap.size + 1) [.string k] from by have := cellsAt_new (W.alloc B) [.string k] tt; exact cellsAt.drew (by simpa using this))
    have L2 := Lib.hid (fun tt B => show cellsAt ((W.alloc (.cells #[.int .i64 vp, .int .i64 vq] tt)).alloc B).drew W.heap.size [.int .i64 vp, .int .i64 vq] from (cellsAt_new W [.int .i64 vp, .int .i64 vq] tt).alloc B)
    have L3 := Lib.hid (fun tt B => show cellsAt ((W.alloc B).alloc (.cells #[.int .i64 vp, .int .i64 vq] tt)).drew (W.heap.size + 1) [.int .i64 vp, .int .i64 vq] from by have := cellsAt_new (W.alloc B) [.int .i64 vp, .int .i64 vq] tt; exact cellsAt.drew (by simpa using this))
    have O1 := Lib.hid (fun A => show Only (fun _ => False) W (W.alloc A).drew from ((Only.refl _ W).alloc _).drew)
    have O2 := Lib.hid (fun A B => show Only (fun _ => False) W ((W.alloc A).alloc B).drew from (((Only.refl _ W).alloc _).alloc _).drew)
    have HL := Lib.hid hl
    have hpl : putLeaf ks vs k (vp, vq) = (ks.take i ++ k :: ks.drop i, vs.take i ++ (vp, vq) :: vs.drop i) := by unfold putLeaf; rw [hk, HI.out]; rfl
    have l1 : ks.length + 1 = (ks.take i ++ k :: ks.drop i).length := by simp; omega
    have l2 : vs.length + 1 = (vs.take i ++ (vp, vq) :: vs.drop i).length := by have := HL.out; simp; omega
    have HE := Lib.hid (And.intro hpl (And.intro l1 l2))
    clear hpl l1 l2
    clear hlt hlt2 hA hbxk hbxv hkv hvv hl
    go_wp2_with fail
    refine wp_region_D_drew (D := (fun i => [0, 1, 2, 3, 4, 6, 7, 10, 11, 12, 14, 18, 19, 20, 21, 22, 23].contains i)) (S := (fun w' => w'.cell? ⟨r, 0, none⟩ = some (.slice ka ks.length kc) ∧ w'.cell? ⟨r, 1, none⟩ = some (.slice va vs.length vc) ∧ w'.cell? ⟨bx, 0, none⟩ = some (.int .i64 vp) ∧ w'.cell? ⟨bx, 1, none⟩ = some (.int .i64 vq))) (by kernel_rfl) ?_ (fun hHeld => ?_)
    · ((try dsimp only) <;> (first | (with_reducible exact HS2.out _ (Only.drew (Only.refl _ W))) | (with_reducible exact HS2.out _ ((O1.out _).mono fun _ e => e.elim)) | (with_reducible exact HS2.out _ ((O2.out _ _).mono fun _ e => e.elim)) | (with_reducible exact HS2.out _ T2.only) | (with_reducible exact HS2.out _ (T1.only.mono fun _ e => .inl e)) | (with_reducible exact HS2.out _ ((T1.only.mono fun _ e => .inl e).alloc _))))
    (refine takeD (i := 0) (some 34) (v := ?_) rfl (by rfl) (by rfl) (by kernel_rfl) (by rfl) (fun _ _ _ h => h) ?_ ?_; rotate_left; (intro w; go_simp; try with_reducible rfl); try go_frame)
    (refine takeD (i := 1) (some 35) (v := ?_) rfl (by rfl) (by rfl) (by kernel_rfl) (by rfl) (fun _ _ _ h => h) ?_ ?_; rotate_left; (intro w; go_simp; try with_reducible rfl); try go_frame)
    (refine takeD (i := 2) (some 36) (v := ?_) rfl (by rfl) (by rfl) (by kernel_rfl) (by rfl) (fun _ _ _ h => h) ?_ ?_; rotate_left; (intro w; go_simp; try with_reducible rfl); try go_frame)
    (refine takeD (i := 3) (some 37) (v := ?_) rfl (by rfl) (by rfl) (by kernel_rfl) (by rfl) (fun _ _ _ h => h) ?_ ?_; rotate_left; (intro w; go_simp; try with_reducible rfl); try go_frame)
    (refine takeD (i := 4) (some 38) (v := ?_) rfl (by rfl) (by rfl) (by kernel_rfl) (by rfl) (fun _ _ _ h => h) ?_ ?_; rotate_left; (intro w; go_simp; try with_reducible rfl); try go_frame)
    (refine takeD (i := 6) (some 40) (v := ?_) rfl (by rfl) (by rfl) (by kernel_rfl) (by rfl) (fun _ _ _ h => h) ?_ ?_; rotate_left; (intro w; go_simp; try with_reducible rfl); try go_frame)
    (refine takeD (i := 7) (some 41) (v := ?_) rfl (by rfl) (by rfl) (by kernel_rfl) (by rfl) (fun _ _ _ h => h) ?_ ?_; rotate_left; (intro w; go_simp; try with_reducible rfl); try go_frame)
    (refine takeD (i := 10) (some 44) (v := ?_) rfl (by rfl) (by rfl) (by kernel_rfl) (by rfl) (fun _ _ _ h => h) ?_ ?_; rotate_left; (intro w; go_simp; try with_reducible rfl); try go_frame)
    (refine takeD (i := 11) (some 45) (v := ?_) rfl (by rfl) (by rfl) (by kernel_rfl) (by rfl) (fun _ _ _ h => h) ?_ ?_; rotate_left; (intro w; go_simp; try with_reducible rfl); try go_frame)
    (refine takeD (i := 12) (some 46) (v := ?_) rfl (by rfl) (by rfl) (by kernel_rfl) (by rfl) (fun _ _ _ h => h) ?_ ?_; rotate_left; (intro w; go_simp; try with_reducible rfl); try go_frame)
    (refine takeD (i := 14) (some 48) (v := ?_) rfl (by rfl) (by rfl) (by kernel_rfl) (by rfl) (fun _ _ _ h => h) ?_ ?_; rotate_left; (intro w; go_simp; try with_reducible rfl); try go_frame)
    (refine takeS (i := 5) (some 39) (v := ?_) rfl (by rfl) (by rfl) (by kernel_rfl) (by rfl) (fun _ _ _ h => h) (by assumption) ?_ ?_; rotate_left; (intro w hSw; (try dsimp only at hSw); go_simp; try with_reducible rfl); try go_frame)
    (refine takeS (i := 13) (some 47) (v := ?_) rfl (by rfl) (by rfl) (by kernel_rfl) (by rfl) (fun _ _ _ h => h) (by assumption) ?_ ?_; rotate_left; (intro w hSw; (try dsimp only at hSw); go_simp; try with_reducible rfl); try go_frame)
    (refine takeS (i := 15) (some 49) (v := ?_) rfl (by rfl) (by rfl) (by kernel_rfl) (by rfl) (fun _ _ _ h => h) (by assumption) ?_ ?_; rotate_left; (intro w hSw; (try dsimp only at hSw); go_simp; try with_reducible rfl); try go_frame)
    refine wpAnyD_ready (rs := [8, 16]) (by kernel_rfl) (by simp) ?_
    refine ReadyD.cons rfl (fun K hK => ?_) ?_
    go_simp
    (refine hK.out _ _ ?_ (fun hNew => ?_); (focus ((try dsimp only) <;> (first | (with_reducible exact HS2.out _ (Only.drew (Only.refl _ W))) | (with_reducible exact HS2.out _ ((O1.out _).mono fun _ e => e.elim)) | (with_reducible exact HS2.out _ ((O2.out _ _).mono fun _ e => e.elim)) | (with_reducible exact HS2.out _ T2.only) | (with_reducible exact HS2.out _ (T1.only.mono fun _ e => .inl e)) | (with_reducible exact HS2.out _ ((T1.only.mono fun _ e => .inl e).alloc _))))); clear hHeld; have hHeld := hNew; clear hNew)
    (clear hK K; try go_frame)
    refine wpAnyD_ready (rs := [9, 16]) (by kernel_rfl) (by simp) ?_
    refine ReadyD.cons rfl (fun K hK => ?_) ?_
    go_simp
    (first | (go_at_call 67; (with_reducible refine (HI1.out _ ?_ _ ?_ ?_).mono ?_); (focus (first | (with_reducible exact O1.out _) | (with_reducible exact O2.out _ _))); (focus (first | (with_reducible exact K1.out _) | (with_reducible exact K2.out _ _) | (with_reducible exact K3.out _ _))); (focus (first | exact Nat.le_refl _ | exact Nat.le_succ _)); rintro e w2 ⟨a1, c1, rfl, T1⟩) | (go_at_call 74; (with_reducible refine (HI2.out _ ?_ _ ?_ ?_).mono ?_); (focus (first | (with_reducible exact T1.only) | (with_reducible exact T1.only.alloc _))); (focus (first | (with_reducible exact cellsAt_new w2 [.int .i64 vp, .int .i64 vq] _) | (with_reducible exact T1.keep _ _ (Nat.le_succ _) (L3.out _ _)) | (with_reducible exact T1.keep _ _ (Nat.le_refl _) (L2.out _ _)))); (focus (first | (with_reducible exact T1.only.size) | exact Nat.le_refl _ | exact Nat.le_succ _)); rintro e w3 ⟨a2, c2, rfl, T2⟩; obtain ⟨g0, g1, g2, g3⟩ := HZ.out _ T2.only))
    go_wp2_with fail
    (refine hK.out _ _ ?_ (fun hNew => ?_); (focus ((try dsimp only) <;> (first | (with_reducible exact HS2.out _ (Only.drew (Only.refl _ W))) | (with_reducible exact HS2.out _ ((O1.out _).mono fun _ e => e.elim)) | (with_reducible exact HS2.out _ ((O2.out _ _).mono fun _ e => e.elim)) | (with_reducible exact HS2.out _ T2.only) | (with_reducible exact HS2.out _ (T1.only.mono fun _ e => .inl e)) | (with_reducible exact HS2.out _ ((T1.only.mono fun _ e => .inl e).alloc _))))); clear hHeld; have hHeld := hNew; clear hNew)
    (clear hK K; try go_frame)
    refine wpAnyD_ready (rs := [16]) (by kernel_rfl) (by simp) ?_
    refine ReadyD.cons rfl (fun K hK => ?_) ?_
    go_simp
    (refine hK.out _ _ ?_ (fun hNew => ?_); (focus ((try dsimp only) <;> (first | (with_reducible exact HS2.out _ (Only.drew (Only.refl _ W))) | (with_reducible exact HS2.out _ ((O1.out _).mono fun _ e => e.elim)) | (with_reducible exact HS2.out _ ((O2.out _ _).mono fun _ e => e.elim)) | (with_reducible exact HS2.out _ T2.only) | (with_reducible exact HS2.out _ (T1.only.mono fun _ e => .inl e)) | (with_reducible exact HS2.out _ ((T1.only.mono fun _ e => .inl e).alloc _))))); clear hHeld; have hHeld := hNew; clear hNew)
    (clear hK K; try go_frame)
    refine wpAnyD_ready (rs := [17]) (by kernel_rfl) (by simp) ?_
    refine ReadyD.cons rfl (fun K hK => ?_) ?_
    go_simp
    (first | (go_at_call 67; (with_reducible refine (HI1.out _ ?_ _ ?_ ?_).mono ?_); (focus (first | (with_reducible exact O1.out _) | (with_reducible exact O2.out _ _))); (focus (first | (with_reducible exact K1.out _) | (with_reducible exact K2.out _ _) | (with_reducible exact K3.out _ _))); (focus (first | exact Nat.le_refl _ | exact Nat.le_succ _)); rintro e w2 ⟨a1, c1, rfl, T1⟩) | (go_at_call 74; (with_reducible refine (HI2.out _ ?_ _ ?_ ?_).mono ?_); (focus (first | (with_reducible exact T1.only) | (with_reducible exact T1.only.alloc _))); (focus (first | (with_reducible exact cellsAt_new w2 [.int .i64 vp, .int .i64 vq] _) | (with_reducible exact T1.keep _ _ (Nat.le_succ _) (L3.out _ _)) | (with_reducible exact T1.keep _ _ (Nat.le_refl _) (L2.out _ _)))); (focus (first | (with_reducible exact T1.only.size) | exact Nat.le_refl _ | exact Nat.le_succ _)); rintro e w3 ⟨a2, c2, rfl, T2⟩; obtain ⟨g0, g1, g2, g3⟩ := HZ.out _ T2.only))
    go_wp2_with fail
    (refine hK.out _ _ ?_ (fun hNew => ?_); (focus ((try dsimp only) <;> (first | (with_reducible exact HS2.out _ (Only.drew (Only.refl _ W))) | (with_reducible exact HS2.out _ ((O1.out _).mono fun _ e => e.elim)) | (with_reducible exact HS2.out _ ((O2.out _ _).mono fun _ e => e.elim)) | (with_reducible exact HS2.out _ T2.only) | (with_reducible exact HS2.out _ (T1.only.mono fun _ e => .inl e)) | (with_reducible exact HS2.out _ ((T1.only.mono fun _ e => .inl e).alloc _))))); clear hHeld; have hHeld := hNew; clear hNew)
    (clear hK K; try go_frame)
    (refine takeD (i := 18) (some 52) (v := ?_) rfl (by rfl) (by rfl) (by kernel_rfl) (by rfl) (fun _ _ _ h => h) ?_ ?_; rotate_left; (intro w; go_simp; try with_reducible rfl); try go_frame)
    (refine takeD (i := 19) (some 53) (v := ?_) rfl (by rfl) (by rfl) (by kernel_rfl) (by rfl) (fun _ _ _ h => h) ?_ ?_; rotate_left; (intro w; go_simp; try with_reducible rfl); try go_frame)
    refine wpAnyD_ready (rs := [20]) (by kernel_rfl) (by simp) ?_
    refine ReadyD.last rfl (by rfl) (fun K hK => ?_) ?_
    go_simp
    refine hK.out _ _ ?_
    (clear hK K; try go_frame)
    (refine takeD (i := 21) (some 54) (v := ?_) rfl (by rfl) (by rfl) (by kernel_rfl) (by rfl) (fun _ _ _ h => h) ?_ ?_; rotate_left; (intro w; go_simp; try with_reducible rfl); try go_frame)
    (refine takeD (i := 22) (some 55) (v := ?_) rfl (by rfl) (by rfl) (by kernel_rfl) (by rfl) (fun _ _ _ h => h) ?_ ?_; rotate_left; (intro w; go_simp; try with_reducible rfl); try go_frame)
    refine wpAnyD_ready (rs := [23]) (by kernel_rfl) (by simp) ?_
    refine ReadyD.last rfl (by rfl) (fun K hK => ?_) ?_
    go_simp
    refine hK.out _ _ ?_
    (clear hK K; try go_frame)
    refine wpAnyD_done (by kernel_rfl) ?_ _
    rotate_left
    exact ReadyD.nil
    exact ReadyD.nil
    exact ReadyD.nil
    exact ReadyD.nil
    refine ReadyD.cons rfl (fun K hK => ?_) ?_
    go_simp
    (refine hK.out _ _ ?_ (fun hNew => ?_); (focus ((try dsimp only) <;> (first | (with_reducible exact HS2.out _ (Only.drew (Only.refl _ W))) | (with_reducible exact HS2.out _ ((O1.out _).mono fun _ e => e.elim)) | (with_reducible exact HS2.out _ ((O2.out _ _).mono fun _ e => e.elim)) | (with_reducible exact HS2.out _ T2.only) | (with_reducible exact HS2.out _ (T1.only.mono fun _ e => .inl e)) | (with_reducible exact HS2.out _ ((T1.only.mono fun _ e => .inl e).alloc _))))); clear hHeld; have hHeld := hNew; clear hNew)
    (clear hK K; try go_frame)
    refine wpAnyD_ready (rs := [9]) (by kernel_rfl) (by simp) ?_
    refine ReadyD.cons rfl (fun K hK => ?_) ?_
    go_simp
    (first | (go_at_call 67; (with_reducible refine (HI1.out _ ?_ _ ?_ ?_).mono ?_); (focus (first | (with_reducible exact O1.out _) | (with_reducible exact O2.out _ _))); (focus (first | (with_reducible exact K1.out _) | (with_reducible exact K2.out _ _) | (with_reducible exact K3.out _ _))); (focus (first | exact Nat.le_refl _ | exact Nat.le_succ _)); rintro e w2 ⟨a1, c1, rfl, T1⟩) | (go_at_call 74; (with_reducible refine (HI2.out _ ?_ _ ?_ ?_).mono ?_); (focus (first | (with_reducible exact T1.only) | (with_reducible exact T1.only.alloc _))); (focus (first | (with_reducible exact cellsAt_new w2 [.int .i64 vp, .int .i64 vq] _) | (with_reducible exact T1.keep _ _ (Nat.le_succ _) (L3.out _ _)) | (with_reducible exact T1.keep _ _ (Nat.le_refl _) (L2.out _ _)))); (focus (first | (with_reducible exact T1.only.size) | exact Nat.le_refl _ | exact Nat.le_succ _)); rintro e w3 ⟨a2, c2, rfl, T2⟩; obtain ⟨g0, g1, g2, g3⟩ := HZ.out _ T2.only))
    go_wp2_with fail
    (refine hK.out _ _ ?_ (fun hNew => ?_); (focus ((try dsimp only) <;> (first | (with_reducible exact HS2.out _ (Only.drew (Only.refl _ W))) | (with_reducible exact HS2.out _ ((O1.out _).mono fun _ e => e.elim)) | (with_reducible exact HS2.out _ ((O2.out _ _).mono fun _ e => e.elim)) | (with_reducible exact HS2.out _ T2.only) | (with_reducible exact HS2.out _ (T1.only.mono fun _ e => .inl e)) | (with_reducible exact HS2.out _ ((T1.only.mono fun _ e => .inl e).alloc _))))); clear hHeld; have hHeld := hNew; clear hNew)
    (clear hK K; try go_frame)
    refine wpAnyD_ready (rs := [17]) (by kernel_rfl) (by simp) ?_
    refine ReadyD.cons rfl (fun K hK => ?_) ?_
    go_simp
    (first | (go_at_call 67; (with_reducible refine (HI1.out _ ?_ _ ?_ ?_).mono ?_); (focus (first | (with_reducible exact O1.out _) | (with_reducible exact O2.out _ _))); (focus (first | (with_reducible exact K1.out _) | (with_reducible exact K2.out _ _) | (with_reducible exact K3.out _ _))); (focus (first | exact Nat.le_refl _ | exact Nat.le_succ _)); rintro e w2 ⟨a1, c1, rfl, T1⟩) | (go_at_call 74; (with_reducible refine (HI2.out _ ?_ _ ?_ ?_).mono ?_); (focus (first | (with_reducible exact T1.only) | (with_reducible exact T1.only.alloc _))); (focus (first | (with_reducible exact cellsAt_new w2 [.int .i64 vp, .int .i64 vq] _) | (with_reducible exact T1.keep _ _ (Nat.le_succ _) (L3.out _ _)) | (with_reducible exact T1.keep _ _ (Nat.le_refl _) (L2.out _ _)))); (focus (first | (with_reducible exact T1.only.size) | exact Nat.le_refl _ | exact Nat.le_succ _)); rintro e w3 ⟨a2, c2, rfl, T2⟩; obtain ⟨g0, g1, g2, g3⟩ := HZ.out _ T2.only))
    go_wp2_with fail
    (refine hK.out _ _ ?_ (fun hNew => ?_); (focus ((try dsimp only) <;> (first | (with_reducible exact HS2.out _ (Only.drew (Only.refl _ W))) | (with_reducible exact HS2.out _ ((O1.out _).mono fun _ e => e.elim)) | (with_reducible exact HS2.out _ ((O2.out _ _).mono fun _ e => e.elim)) | (with_reducible exact HS2.out _ T2.only) | (with_reducible exact HS2.out _ (T1.only.mono fun _ e => .inl e)) | (with_reducible exact HS2.out _ ((T1.only.mono fun _ e => .inl e).alloc _))))); clear hHeld; have hHeld := hNew; clear hNew)
    (clear hK K; try go_frame)
    (refine takeD (i := 18) (some 52) (v := ?_) rfl (by rfl) (by rfl) (by kernel_rfl) (by rfl) (fun _ _ _ h => h) ?_ ?_; rotate_left; (intro w; go_simp; try with_reducible rfl); try go_frame)
    (refine takeD (i := 19) (some 53) (v := ?_) rfl (by rfl) (by rfl) (by kernel_rfl) (by rfl) (fun _ _ _ h => h) ?_ ?_; rotate_left; (intro w; go_simp; try with_reducible rfl); try go_frame)
    refine wpAnyD_ready (rs := [20]) (by kernel_rfl) (by simp) ?_
    refine ReadyD.last rfl (by rfl) (fun K hK => ?_) ?_
    go_simp
    refine hK.out _ _ ?_
    (clear hK K; try go_frame)
    (refine takeD (i := 21) (some 54) (v := ?_) rfl (by rfl) (by rfl) (by kernel_rfl) (by rfl) (fun _ _ _ h => h) ?_ ?_; rotate_left; (intro w; go_simp; try with_reducible rfl); try go_frame)
    (refine takeD (i := 22) (some 55) (v := ?_) rfl (by rfl) (by rfl) (by kernel_rfl) (by rfl) (fun _ _ _ h => h) ?_ ?_; rotate_left; (intro w; go_simp; try with_reducible rfl); try go_frame)
    refine wpAnyD_ready (rs := [23]) (by kernel_rfl) (by simp) ?_
    refine ReadyD.last rfl (by rfl) (fun K hK => ?_) ?_
    go_simp
    refine hK.out _ _ ?_
    (clear hK K; try go_frame)
    refine wpAnyD_done (by kernel_rfl) ?_ _
    rotate_left
    exact ReadyD.nil
    exact ReadyD.nil
    exact ReadyD.nil
    exact ReadyD.nil
    exact ReadyD.nil
    refine ReadyD.cons rfl (fun K hK => ?_) ?_
    go_simp
    (refine hK.out _ _ ?_ (fun hNew => ?_); (focus ((try dsimp only) <;> (first | (with_reducible exact HS2.out _ (Only.drew (Only.refl _ W))) | (with_reducible exact HS2.out _ ((O1.out _).mono fun _ e => e.elim)) | (with_reducible exact HS2.out _ ((O2.out _ _).mono fun _ e => e.elim)) | (with_reducible exact HS2.out _ T2.only) | (with_reducible exact HS2.out _ (T1.only.mono fun _ e => .inl e)) | (with_reducible exact HS2.out _ ((T1.only.mono fun _ e => .inl e).alloc _))))); clear hHeld; have hHeld := hNew; clear hNew)
    (clear hK K; try go_frame)
    refine wpAnyD_ready (rs := [8]) (by kernel_rfl) (by simp) ?_
    refine ReadyD.cons rfl (fun K hK => ?_) ?_
    go_simp
    (refine hK.out _ _ ?_ (fun hNew => ?_); (focus ((try dsimp only) <;> (first | (with_reducible exact HS2.out _ (Only.drew (Only.refl _ W))) | (with_reducible exact HS2.out _ ((O1.out _).mono fun _ e => e.elim)) | (with_reducible exact HS2.out _ ((O2.out _ _).mono fun _ e => e.elim)) | (with_reducible exact HS2.out _ T2.only) | (with_reducible exact HS2.out _ (T1.only.mono fun _ e => .inl e)) | (with_reducible exact HS2.out _ ((T1.only.mono fun _ e => .inl e).alloc _))))); clear hHeld; have hHeld := hNew; clear hNew)
    (clear hK K; try go_frame)
    refine wpAnyD_ready (rs := [9]) (by kernel_rfl) (by simp) ?_
    refine ReadyD.cons rfl (fun K hK => ?_) ?_
    go_simp
    (first | (go_at_call 67; (with_reducible refine (HI1.out _ ?_ _ ?_ ?_).mono ?_); (focus (first | (with_reducible exact O1.out _) | (with_reducible exact O2.out _ _))); (focus (first | (with_reducible exact K1.out _) | (with_reducible exact K2.out _ _) | (with_reducible exact K3.out _ _))); (focus (first | exact Nat.le_refl _ | exact Nat.le_succ _)); rintro e w2 ⟨a1, c1, rfl, T1⟩) | (go_at_call 74; (with_reducible refine (HI2.out _ ?_ _ ?_ ?_).mono ?_); (focus (first | (with_reducible exact T1.only) | (with_reducible exact T1.only.alloc _))); (focus (first | (with_reducible exact cellsAt_new w2 [.int .i64 vp, .int .i64 vq] _) | (with_reducible exact T1.keep _ _ (Nat.le_succ _) (L3.out _ _)) | (with_reducible exact T1.keep _ _ (Nat.le_refl _) (L2.out _ _)))); (focus (first | (with_reducible exact T1.only.size) | exact Nat.le_refl _ | exact Nat.le_succ _)); rintro e w3 ⟨a2, c2, rfl, T2⟩; obtain ⟨g0, g1, g2, g3⟩ := HZ.out _ T2.only))
    go_wp2_with fail
    (refine hK.out _ _ ?_ (fun hNew => ?_); (focus ((try dsimp only) <;> (first | (with_reducible exact HS2.out _ (Only.drew (Only.refl _ W))) | (with_reducible exact HS2.out _ ((O1.out _).mono fun _ e => e.elim)) | (with_reducible exact HS2.out _ ((O2.out _ _).mono fun _ e => e.elim)) | (with_reducible exact HS2.out _ T2.only) | (with_reducible exact HS2.out _ (T1.only.mono fun _ e => .inl e)) | (with_reducible exact HS2.out _ ((T1.only.mono fun _ e => .inl e).alloc _))))); clear hHeld; have hHeld := hNew; clear hNew)
    (clear hK K; try go_frame)
    refine wpAnyD_ready (rs := [17]) (by kernel_rfl) (by simp) ?_
    refine ReadyD.cons rfl (fun K hK => ?_) ?_
    go_simp
    (first | (go_at_call 67; (with_reducible refine (HI1.out _ ?_ _ ?_ ?_).mono ?_); (focus (first | (with_reducible exact O1.out _) | (with_reducible exact O2.out _ _))); (focus (first | (with_reducible exact K1.out _) | (with_reducible exact K2.out _ _) | (with_reducible exact K3.out _ _))); (focus (first | exact Nat.le_refl _ | exact Nat.le_succ _)); rintro e w2 ⟨a1, c1, rfl, T1⟩) | (go_at_call 74; (with_reducible refine (HI2.out _ ?_ _ ?_ ?_).mono ?_); (focus (first | (with_reducible exact T1.only) | (with_reducible exact T1.only.alloc _))); (focus (first | (with_reducible exact cellsAt_new w2 [.int .i64 vp, .int .i64 vq] _) | (with_reducible exact T1.keep _ _ (Nat.le_succ _) (L3.out _ _)) | (with_reducible exact T1.keep _ _ (Nat.le_refl _) (L2.out _ _)))); (focus (first | (with_reducible exact T1.only.size) | exact Nat.le_refl _ | exact Nat.le_succ _)); rintro e w3 ⟨a2, c2, rfl, T2⟩; obtain ⟨g0, g1, g2, g3⟩ := HZ.out _ T2.only))
    go_wp2_with fail
    (refine hK.out _ _ ?_ (fun hNew => ?_); (focus ((try dsimp only) <;> (first | (with_reducible exact HS2.out _ (Only.drew (Only.refl _ W))) | (with_reducible exact HS2.out _ ((O1.out _).mono fun _ e => e.elim)) | (with_reducible exact HS2.out _ ((O2.out _ _).mono fun _ e => e.elim)) | (with_reducible exact HS2.out _ T2.only) | (with_reducible exact HS2.out _ (T1.only.mono fun _ e => .inl e)) | (with_reducible exact HS2.out _ ((T1.only.mono fun _ e => .inl e).alloc _))))); clear hHeld; have hHeld := hNew; clear hNew)
    (clear hK K; try go_frame)
    (refine takeD (i := 18) (some 52) (v := ?_) rfl (by rfl) (by rfl) (by kernel_rfl) (by rfl) (fun _ _ _ h => h) ?_ ?_; rotate_left; (intro w; go_simp; try with_reducible rfl); try go_frame)
    (refine takeD (i := 19) (some 53) (v := ?_) rfl (by rfl) (by rfl) (by kernel_rfl) (by rfl) (fun _ _ _ h => h) ?_ ?_; rotate_left; (intro w; go_simp; try with_reducible rfl); try go_frame)
    refine wpAnyD_ready (rs := [20]) (by kernel_rfl) (by simp) ?_
    refine ReadyD.last rfl (by rfl) (fun K hK => ?_) ?_
    go_simp
    refine hK.out _ _ ?_
    (clear hK K; try go_frame)
    (refine takeD (i := 21) (some 54) (v := ?_) rfl (by rfl) (by rfl) (by kernel_rfl) (by rfl) (fun _ _ _ h => h) ?_ ?_; rotate_left; (intro w; go_simp; try with_reducible rfl); try go_frame)
    (refine takeD (i := 22) (some 55) (v := ?_) rfl (by rfl) (by rfl) (by kernel_rfl) (by rfl) (fun _ _ _ h => h) ?_ ?_; rotate_left; (intro w; go_simp; try with_reducible rfl); try go_frame)
    refine wpAnyD_ready (rs := [23]) (by kernel_rfl) (by simp) ?_
    refine ReadyD.last rfl (by rfl) (fun K hK => ?_) ?_
    go_simp
    refine hK.out _ _ ?_
    (clear hK K; try go_frame)
    refine wpAnyD_done (by kernel_rfl) ?_ _
    rotate_left
    exact ReadyD.nil
    exact ReadyD.nil
    exact ReadyD.nil
    exact ReadyD.nil
    exact ReadyD.nil
    exact ReadyD.nil
    all_goals
      have FB := Lib.hid (fun hs => two_turned HW.out.1 (And.intro HF.out.1 (And.intro HF.out.2.1 fun b hb => by have := HF.out.2.2 b hb; omega)) HW.out.2.2 T1 T2 hs HE.out.2.1 HE.out.2.2 (.bool true))
      go_wp2_with fail
      go_ret
      rw [HE.out.1, hk]
      first
        | exact FB.out (Still.refl _)
        | exact FB.out ((Only.refl _ _).alloc _)
end Go.Proofs.YtedfijmaeoednaaGreatDoor

namespace Go.Proofs.YtedfijmaeoednaaGreatDoor
open Go.RowKit Go.Wh

def kr (k : Key) (v : Rid) : Key × E 0 := (k, v)
/-- A sorted row of keys and places: put. -/
def insL (l : Nd 0) (k : Key) (v : Rid) : Nd 0 :=
  l.take (pos (keys l) k) ++ kr k v :: l.drop (if hasK (keys l) k then pos (keys l) k + 1 else pos (keys l) k)

/-- The least key of a node. -/
def fk {d : Nat} (c : Nd d) : Key := (keys c).headD ⟨#[]⟩

/-- A row of a key and a node. -/
def kn {d : Nat} (k : Key) (c : Nd d) : Key × E (d + 1) := (k, c)
def nd {d : Nat} (x : Key × E (d + 1)) : Nd d := x.2
/-- A child that is too great is two. -/
def parted {d : Nat} (c : Nd d) : Nd (d + 1) :=
  if c.length ≤ 4 then [kn (fk c) c] else [kn (fk (c.take (c.length / 2))) (c.take (c.length / 2)), kn (fk (c.drop (c.length / 2))) (c.drop (c.length / 2))]

def sub {d : Nat} (l : Nd (d + 1)) (i : Nat) : Nd d := match l[i]? with
  | some x => nd x
  | none => []

/-- Put at a level. -/
def putM : (d : Nat) → Nd d → Key → Rid → Nd d
  | 0, l, k, v => insL l k v
  | d + 1, l, k, v => l.take (childI (keys l) k) ++ (parted (putM d (sub l (childI (keys l) k)) k v) ++ l.drop (childI (keys l) k + 1))
/-- Was it not there? -/
def putB : (d : Nat) → Nd d → Key → Bool
  | 0, l, k => !hasK (keys l) k
  | d + 1, l, k => putB d (sub l (childI (keys l) k)) k

/-- All that a tree has, in order. -/
def flat : (d : Nat) → Nd d → Nd 0
  | 0, l => l
  | d + 1, l => l.flatMap fun x => flat d (nd x)

/-- Below a node all are great enough, not too great, and known by their least keys. -/
def Fit : (d : Nat) → Nd d → Prop
  | 0, _ => True
  | d + 1, l => ∀ x ∈ l, 2 ≤ (nd x).length ∧ (nd x).length ≤ 4 ∧ x.1 = fk (nd x) ∧ Fit d (nd x)

/-- What a walk asks: leaves rise, nodes are not empty, not great. -/
def Able : (d : Nat) → Nd d → Prop
  | 0, l => KS (keys l) ∧ l.length ≤ 90
  | d + 1, l => 0 < l.length ∧ l.length ≤ 90 ∧ ∀ x ∈ l, Able d (nd x)

theorem insL_length (l : Nd 0) (k : Key) (v : Rid) : l.length ≤ (insL l k v).length ∧ (insL l k v).length ≤ l.length + 1 ∧ 0 < (insL l k v).length := by
  have h := pos_le (keys l) k
  rw [keys_length] at h
  unfold insL
  simp only [List.length_append, List.length_take, List.length_cons, List.length_drop]
  split <;> omega
theorem parted_length {d : Nat} (c : Nd d) : 1 ≤ (parted c).length ∧ (parted c).length ≤ 2 := by
  unfold parted
  split <;> simp
theorem putM_length : ∀ (d : Nat) (l : Nd d) (k : Key) (v : Rid), (d = 0 ∨ 0 < l.length) → l.length ≤ (putM d l k v).length ∧ (putM d l k v).length ≤ l.length + 1 ∧ 0 < (putM d l k v).length
  | 0, l, k, v, _ => insL_length l k v
  | d + 1, l, k, v, h => by
    have h0 : 0 < l.length := by omega
    have hi := childI_lt (ks := keys l) (fun e => by have := keys_length l; rw [e] at this; simp at this; omega) k
    rw [keys_length] at hi
    have hp := parted_length (putM d (sub l (childI (keys l) k)) k v)
    simp only [putM, List.length_append, List.length_take, List.length_drop]
    omega
theorem sub_mem {d : Nat} {l : Nd (d + 1)} {i : Nat} (h : i < l.length) : ∃ x ∈ l, l[i]? = some x ∧ sub l i = nd x := by
  refine ⟨l[i], List.getElem_mem h, List.getElem?_eq_getElem h, ?_⟩
  unfold sub
  rw [List.getElem?_eq_getElem h]
theorem able_child {d : Nat} {l : Nd (d + 1)} {i : Nat} (h : Able (d + 1) l) (hi : i < l.length) : Able d (sub l i) := by
  obtain ⟨x, hx, _, e⟩ := sub_mem hi
  rw [e]
  exact h.2.2 x hx
theorem able_length {d : Nat} {l : Nd d} (h : Able d l) : l.length ≤ 90 := by
  cases d with
  | zero => exact h.2
  | succ d => exact h.2.1
end Go.Proofs.YtedfijmaeoednaaGreatDoor

namespace Go.Proofs.YtedfijmaeoednaaGreatDoor
open Go.RowKit Go.Wh

section
variable {w w' : World} {r : Nat} {ks : List Key} {vs : List Rid} {cs F : List Nat}

theorem Raw.kids (h : Raw w r ks vs cs F) (hc : 0 < cs.length) : ∃ g o c, w.cell? ⟨r, 2, none⟩ = some (.slice (some ⟨g, o, none⟩) cs.length c) ∧ ∀ j a, cs[j]? = some a → w.cell? ⟨g, o + j, none⟩ = some (ptr a) := by
  obtain ⟨kv, vv, cv, hn, _, _, _⟩ := h
  obtain ⟨g, o, c, rfl, hv⟩ := hn.c.form hc
  refine ⟨g, o, c, hn.cells.cell 2, fun j a ha => ?_⟩
  rw [hv.cells j (by have := (List.getElem?_eq_some_iff.1 ha).1; omega)]
  exact pcells_get ha

theorem kcells_set (ks : List Key) (j : Nat) (a : Key) : (kcells ks).set j (.string a) = kcells (ks.set j a) := by
  simp [kcells, List.map_set]

theorem Raw.keysAt (h : Raw w r ks vs cs F) (hc : 0 < ks.length) : ∃ g o c, w.cell? ⟨r, 0, none⟩ = some (.slice (some ⟨g, o, none⟩) ks.length c) ∧ g ∈ F ∧ (∀ j a, ks[j]? = some a → w.cell? ⟨g, o + j, none⟩ = some (.string a) ∧ w.frozen? ⟨g, o + j, none⟩ = false) ∧
    ∀ j a, j < ks.length → Raw (w.setCell ⟨g, o + j, none⟩ (.string a)) r (ks.set j a) vs cs F := by
  obtain ⟨kv, vv, cv, hn, hF, hd, hl⟩ := h
  obtain ⟨g, o, c, rfl, hv⟩ := hn.k.form hc
  have hA := foot_nodup.1 (hF ▸ hd)
  refine ⟨g, o, c, hn.cells.cell 0, by rw [hF]; exact mem_foot.2 (.inr (.inl rfl)), fun j a ha => ⟨?_, ?_⟩, fun j a hj => ?_⟩
  · rw [hv.cells j (by have := (List.getElem?_eq_some_iff.1 ha).1; omega)]
    exact kcells_get ha
  · exact hv.free j (by have := (List.getElem?_eq_some_iff.1 ha).1; omega)
  · have hgr : r ≠ g := fun e => hA.rk g rfl e.symm
    refine ⟨.slice (some ⟨g, o, none⟩) ks.length c, vv, cv, ⟨hn.cells.setOther (p := ⟨g, o + j, none⟩) hgr _, ?_, vec_set hn.v (p := ⟨g, o + j, none⟩) (fun e => hA.akv g rfl e) _, vec_set hn.c (p := ⟨g, o + j, none⟩) (fun e => hA.akc g rfl e) _⟩, hF, hd, fun b hb => by simpa [World.setCell] using hl b hb⟩
    rw [List.length_set, ← kcells_set]
    exact .inr ⟨_, _, _, rfl, hv.set j (by omega) (.string a)⟩

theorem Raw.setKey_only (w : World) {g : Nat} {F : List Nat} (hg : g ∈ F) (o : Nat) (u : Value) : Only (fun b => b ∈ F) w (w.setCell ⟨g, o, none⟩ u) := (Only.refl _ w).setCell (.inl hg) u
end

/-- One of the children. -/
theorem Inr.focus {d : Nat} {w : World} {r : Nat} {ks : List Key} {qs rs : List Nat} {cs : List (Nd d)} {F0 : List Nat} {Fs : List (List Nat)} (h : Inr d w r ks qs rs cs F0 Fs) (i : Nat) {A B : List (Nd d)} {c : Nd d} (hc : cs = A ++ ([c] ++ B)) (hA : A.length = i) :
    ∃ ra q rb Fa f Fb, rs = ra ++ ([q] ++ rb) ∧ Fs = Fa ++ ([f] ++ Fb) ∧ ra.length = i ∧ Sons (At d w) ra A Fa ∧ At d w q c f ∧ Sons (At d w) rb B Fb ∧ rs[i]? = some q := by
  have hk := h.kids
  rw [hc] at hk
  obtain ⟨ra, rx, Fa, fx, rfl, rfl, h1, h2⟩ := hk.part
  obtain ⟨rm, rb, fm, fb, rfl, rfl, h3, h4⟩ := h2.part
  obtain ⟨q, f, rfl, rfl, h5⟩ := h3.get1
  have hl : ra.length = i := h1.lenR.trans hA
  exact ⟨ra, q, rb, Fa, f, fb, rfl, rfl, hl, h1, h5, h4, by rw [List.getElem?_append_right (by omega), hl, Nat.sub_self]; rfl⟩

theorem subs_split {d : Nat} (l : Nd (d + 1)) (i : Nat) (hi : i < l.length) : subs l = subs (l.take i) ++ ([sub l i] ++ subs (l.drop (i + 1))) := by
  have h1 : l = l.take i ++ ([l[i]] ++ l.drop (i + 1)) := by
    conv => lhs; rw [← List.take_append_drop i l, List.drop_eq_getElem_cons hi]
    rfl
  have h2 : sub l i = nd l[i] := by
    unfold sub
    rw [List.getElem?_eq_getElem hi]
  rw [h2]
  conv => lhs; rw [h1, subs_append, subs_append]
  rfl
theorem keys_split {d : Nat} (l : Nd (d + 1)) (i : Nat) (p : Nd (d + 1)) : keys (l.take i ++ (p ++ l.drop (i + 1))) = (keys l).take i ++ (keys p ++ (keys l).drop (i + 1)) := by
  rw [keys_append, keys_append, keys_take, keys_drop]
theorem subs_length_take {d : Nat} (l : Nd (d + 1)) (i : Nat) (hi : i < l.length) : (subs (l.take i)).length = i := by
  rw [subs_length, List.length_take]
  omega

/-- The least key of a node that is not empty, in memory. -/
theorem At.least {d : Nat} {w : World} {r : Nat} {c : Nd d} {F : List Nat} (h : At d w r c F) (hc : 0 < c.length) : ∃ g o n p, w.cell? ⟨r, 0, none⟩ = some (.slice (some ⟨g, o, none⟩) n p) ∧ 0 < n ∧ w.cell? ⟨g, o, none⟩ = some (.string (fk c)) ∧ r ∈ F ∧ g ∈ F := by
  obtain ⟨vs, cs, F0, hr, _, _, hf⟩ := h.raw
  have hl := keys_length c
  obtain ⟨g, o, p, h1, hg, h2, _⟩ := hr.keysAt (by omega)
  have h3 : (keys c)[0]? = some (fk c) := by
    unfold fk
    cases hk : keys c with
    | nil => rw [hk] at hl; simp at hl; omega
    | cons a t => rfl
  exact ⟨g, o, _, p, h1, by omega, (h2 0 _ h3).1, hf r hr.self, hf g hg⟩

def PutPost (d : Nat) (w : World) (r : Nat) (l : Nd d) (F : List Nat) (k : Key) (v : Rid) (e : Ending) (w' : World) : Prop :=
  ∃ F', e = .returned (.bool (putB d l k)) ∧ At d w' r (putM d l k v) F' ∧ Only (fun b => b ∈ F) w w' ∧ ∀ b ∈ F', b ∈ F ∨ w.heap.size ≤ b

theorem putLeaf_ins (l : Nd 0) (k : Key) (v : Rid) (hx : ∀ j, pos (keys l) k = j → hasK (keys l) k = true → (keys l)[j]? = some k) : putLeaf (keys l) (vals l) k v = (keys (insL l k v), vals (insL l k v)) := by
  have h0 : ∀ (x : Key × E 0) (b : Nd 0), keys (x :: b) = x.1 :: keys b := fun _ _ => rfl
  have h1 : ∀ (x : Key × E 0) (b : Nd 0), vals (x :: b) = x.2 :: vals b := fun _ _ => rfl
  unfold putLeaf insL
  cases hk : hasK (keys l) k with
  | true =>
    have hg := hx _ rfl hk
    have hlt : pos (keys l) k < l.length := by rw [← keys_length]; exact (List.getElem?_eq_some_iff.1 hg).1
    simp only [if_true]
    have ek : keys (l.take (pos (keys l) k) ++ kr k v :: l.drop (pos (keys l) k + 1)) = keys l := by
      have hk' : (keys l)[pos (keys l) k]'(by rw [keys_length]; exact hlt) = k := (List.getElem?_eq_some_iff.1 hg).2
      have : keys l = (keys l).take (pos (keys l) k) ++ (k :: (keys l).drop (pos (keys l) k + 1)) := by
        conv => lhs; rw [← List.take_append_drop (pos (keys l) k) (keys l), List.drop_eq_getElem_cons (by rw [keys_length]; exact hlt), hk']
      rw [keys_append, ← keys_take, h0, ← keys_drop]
      exact this.symm
    have ev : vals (l.take (pos (keys l) k) ++ kr k v :: l.drop (pos (keys l) k + 1)) = (vals l).set (pos (keys l) k) v := by
      rw [vals_append, ← vals_take, h1, ← vals_drop, List.set_eq_take_append_cons_drop, if_pos (by rw [vals_length]; exact hlt)]
      rfl
    rw [ek, ev]
  | false =>
    simp only [Bool.false_eq_true, if_false]
    have ek : keys (l.take (pos (keys l) k) ++ kr k v :: l.drop (pos (keys l) k)) = (keys l).take (pos (keys l) k) ++ k :: (keys l).drop (pos (keys l) k) := by
      rw [keys_append, ← keys_take, h0, ← keys_drop]
      rfl
    have ev : vals (l.take (pos (keys l) k) ++ kr k v :: l.drop (pos (keys l) k)) = (vals l).take (pos (keys l) k) ++ v :: (vals l).drop (pos (keys l) k) := by
      rw [vals_append, ← vals_take, h1, ← vals_drop]
      rfl
    rw [ek, ev]

theorem put_zero (w : World) (r : Nat) (l : Nd 0) (F : List Nat) (k : Key) (v : Rid) (h : At 0 w r l F) (ha : Able 0 l) : Calls Tryz.prog 47 #[ptr r, .string k, ridV v] w (PutPost 0 w r l F k v) := by
  refine (put_leaf w r (keys l) (vals l) F k v h ha.1 (by rw [keys_length, vals_length]) (by rw [keys_length]; have := ha.2; omega)).mono ?_
  rintro e w' ⟨F', rfl, h1, h2, h3⟩
  rw [putLeaf_ins l k v (fun j hj hh => by subst hj; simpa [hasK] using hh)] at h1
  exact ⟨F', rfl, h1, h2, h3⟩
end Go.Proofs.YtedfijmaeoednaaGreatDoor
