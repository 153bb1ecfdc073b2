/- What a hand shows: plain laws of look, touch, swap, put; the dirty pages. No program. No conditions. A pool on a disk that nothing cuts: what its operations show: plain. No program. No conditions. A pool on a disk that nothing cuts: a page got, set, flushed; a new one: plain. No program. No conditions. Where a law about pools stands: contracts of the pool's methods by what they show; rows of one letter. Conditions: the pool, the disk and the trail lie in memory. A pool with no dirty page turns nothing on the disk: plain. No program. No conditions. The document's blank: is a cell empty, or noughts alone? Conditions: it lies in memory. The document's SamePage: two pages with the same cells are the same. Conditions: they lie in memory. Sets and flushes of pages, read by another pool: plain. No program. No conditions. A page of a pool, by what it shows; two pools of one disk. Conditions: the pools, the disk and the trail lie in memory. Pages that were flushed, read by another pool: the law's walk. Conditions: a slice of bytes that lies in memory, a byte. An argument of bytes as a slice that is only read. No conditions. PoolReads: for every input the law returns true and its arguments read as before. No conditions beyond the row's. -/
import Derived.Test.YtlcfoeikamkpmaaGreatPq29
import Derived.Lib.BufferRead
import Derived.BigQuiet
namespace Go.Proofs.YtlcfoeikamkpmaaGreat
open Go.Wh

section
variable {V : Type}
def Pl.core (x : Pl V) : Int × V × Bool := (x.k, x.v, x.has)
def coreL (l : List (Pl V)) : List (Int × V × Bool) := l.map Pl.core
structure Hd.nice (h : Hd V) : Prop where
 uni : ∀ (i j : Nat) (x y : Pl V), h.l[i]? = some x → h.l[j]? = some y → x.has = true → y.has = true → x.k = y.k → i = j
 lt : h.at_ < h.l.length
theorem look_iff {h : Hd V} (hn : h.nice) {k : Int} {v : V} : h.look k = some v ↔ ∃ (i : Nat) (x : Pl V), h.l[i]? = some x ∧ x.has = true ∧ x.k = k ∧ x.v = v := by
 unfold Hd.look
 constructor
 · intro e
   cases hx : h.l[fdI (isK k) h.l]? with
   | none => rw [hx] at e; cases e
   | some x =>
    rw [hx] at e
    have hlt : fdI (isK k) h.l < h.l.length := (List.getElem?_eq_some_iff.1 hx).1
    obtain ⟨y, hy, hp⟩ := fdI_lt hlt
    rw [hx] at hy
    cases hy
    unfold isK at hp
    simp only [Bool.and_eq_true, beq_iff_eq] at hp
    exact ⟨_, x, hx, hp.1, hp.2, Option.some.inj e⟩
 · rintro ⟨i, x, hx, h1, h2, rfl⟩
   have hp : isK k x = true := by
    unfold isK
    rw [h1, h2]
    simp
   have e : fdI (isK k) h.l = i := fdI_at (fun j y hj hy => by
    by_cases hq : isK k y = true
    · exfalso
      unfold isK at hq
      simp only [Bool.and_eq_true, beq_iff_eq] at hq
      have := hn.uni i j x y hx hy h1 hq.1 (by rw [h2, hq.2])
      omega
    · simpa using hq) hx hp
   rw [e, hx]
   rfl
theorem core_get {l m : List (Pl V)} (h : coreL l = coreL m) {i : Nat} {x : Pl V} (hx : l[i]? = some x) : ∃ y, m[i]? = some y ∧ y.has = x.has ∧ y.k = x.k ∧ y.v = x.v := by
 have e : (coreL m)[i]? = some x.core := by
  rw [← h]
  unfold coreL
  rw [List.getElem?_map, hx]
  rfl
 unfold coreL at e
 rw [List.getElem?_map] at e
 cases hy : m[i]? with
 | none => rw [hy] at e; cases e
 | some y =>
  rw [hy] at e
  have e2 : y.core = x.core := Option.some.inj e
  unfold Pl.core at e2
  injection e2 with a b
  injection b with b c
  exact ⟨y, rfl, c, a, b⟩
theorem nice_core {h g : Hd V} (hc : coreL g.l = coreL h.l) (hn : h.nice) (hl : g.at_ < h.l.length) : g.nice := by
 refine ⟨fun i j x y hx hy h1 h2 h3 => ?_, ?_⟩
 · obtain ⟨x', a1, a2, a3, a4⟩ := core_get hc hx
   obtain ⟨y', b1, b2, b3, b4⟩ := core_get hc hy
   exact hn.uni i j x' y' a1 b1 (by rw [a2]; exact h1) (by rw [b2]; exact h2) (by rw [a3, b3]; exact h3)
 · have : (coreL g.l).length = (coreL h.l).length := by rw [hc]
   unfold coreL at this
   rw [List.length_map, List.length_map] at this
   omega
theorem core_len {l m : List (Pl V)} (h : coreL l = coreL m) : l.length = m.length := by
 have : (coreL l).length = (coreL m).length := by rw [h]
 unfold coreL at this
 rwa [List.length_map, List.length_map] at this
theorem look_core {h g : Hd V} (hc : coreL g.l = coreL h.l) (hn : h.nice) (gn : g.nice) (k : Int) : g.look k = h.look k := by
 apply Option.ext
 intro v
 rw [look_iff hn, look_iff gn]
 constructor
 · rintro ⟨i, x, hx, h1, h2, h3⟩
   obtain ⟨y, a1, a2, a3, a4⟩ := core_get hc hx
   exact ⟨i, y, a1, by rw [a2]; exact h1, by rw [a3]; exact h2, by rw [a4]; exact h3⟩
 · rintro ⟨i, x, hx, h1, h2, h3⟩
   obtain ⟨y, a1, a2, a3, a4⟩ := core_get hc.symm hx
   exact ⟨i, y, a1, by rw [a2]; exact h1, by rw [a3]; exact h2, by rw [a4]; exact h3⟩
theorem modI_core {f : Pl V → Pl V} (hf : ∀ x, (f x).core = x.core) : ∀ (i : Nat) (l : List (Pl V)), coreL (modI f i l) = coreL l
 | _, [] => by simp [modI]
 | 0, x :: l => by simp [modI, coreL, hf x]
 | i + 1, x :: l => by
  have := modI_core hf i l
  unfold coreL at this ⊢
  simp [modI, this]
theorem turn_core : ∀ (n : Nat) (h : Hd V), h.at_ < h.l.length → coreL (h.turn n).2.l = coreL h.l ∧ (h.turn n).2.at_ < h.l.length ∧ (h.turn n).1 < h.l.length
 | 0, h, hl => ⟨rfl, hl, hl⟩
 | n + 1, h, hl => by
  unfold Hd.turn
  have hm : (h.at_ + 1) % h.l.length < h.l.length := Nat.mod_lt _ (by omega)
  cases e : h.l[h.at_]? with
  | none => exact ⟨rfl, hl, hl⟩
  | some x =>
   simp only
   split
   · exact ⟨rfl, hm, hl⟩
   · have hlen : (modI Pl.off h.at_ h.l).length = h.l.length := modI_length _ _ _
     obtain ⟨a1, a2, a3⟩ := turn_core n ⟨modI Pl.off h.at_ h.l, (h.at_ + 1) % h.l.length⟩ (by rw [hlen]; exact hm)
     refine ⟨a1.trans (modI_core (f := Pl.off) (fun _ => rfl) _ _), ?_, ?_⟩
     · have := a2
       dsimp only at this
       rw [hlen] at this
       exact this
     · have := a3
       dsimp only at this
       rw [hlen] at this
       exact this
theorem touch_spec {h : Hd V} (hn : h.nice) (k : Int) : (h.touch k).nice ∧ (h.touch k).l.length = h.l.length ∧ ∀ k', (h.touch k).look k' = h.look k' := by
 have hc : coreL (h.touch k).l = coreL h.l := modI_core (f := Pl.on) (fun _ => rfl) _ _
 have hn' := nice_core (g := h.touch k) hc hn hn.lt
 exact ⟨hn', core_len hc, look_core hc hn hn'⟩
theorem modI_get {f : Pl V → Pl V} : ∀ (i : Nat) (l : List (Pl V)) (j : Nat), (modI f i l)[j]? = if j = i then l[j]?.map f else l[j]?
 | _, [], j => by simp [modI]
 | 0, x :: l, j => by
  cases j with
  | zero => simp [modI]
  | succ j => simp [modI]
 | i + 1, x :: l, j => by
  cases j with
  | zero => simp [modI]
  | succ j =>
   simp only [modI, List.getElem?_cons_succ, Nat.add_right_cancel_iff]
   exact modI_get i l j
theorem mod_spec {h : Hd V} (hn : h.nice) (k : Int) (v : V) {f : Pl V → Pl V} (hf : ∀ x, (f x).core = (x.k, v, x.has)) (a : Nat) (ha : a < h.l.length) :
 Hd.nice ⟨modI f (fdI (isK k) h.l) h.l, a⟩ ∧ ∀ k', Hd.look ⟨modI f (fdI (isK k) h.l) h.l, a⟩ k' = if k' = k ∧ (h.look k).isSome = true then some v else h.look k' := by
 have f1 : ∀ x, (f x).k = x.k ∧ (f x).v = v ∧ (f x).has = x.has := fun x => by
  have := hf x
  unfold Pl.core at this
  injection this with a b
  injection b with b c
  exact ⟨a, b, c⟩
 have hget : ∀ {j : Nat} {y : Pl V}, (modI f (fdI (isK k) h.l) h.l)[j]? = some y → ∃ x, h.l[j]? = some x ∧ y.k = x.k ∧ y.has = x.has ∧ (j = fdI (isK k) h.l → y.v = v) ∧ (j ≠ fdI (isK k) h.l → y.v = x.v) := by
  intro j y hy
  rw [modI_get] at hy
  split at hy
  · rename_i hj
    cases hx : h.l[j]? with
    | none => rw [hx] at hy; cases hy
    | some x =>
     rw [hx] at hy
     have e : f x = y := Option.some.inj hy
     subst e
     exact ⟨x, rfl, (f1 x).1, (f1 x).2.2, fun _ => (f1 x).2.1, fun e => absurd hj e⟩
  · rename_i hj
    exact ⟨y, hy, rfl, rfl, fun e => absurd e hj, fun _ => rfl⟩
 have hn' : Hd.nice (⟨modI f (fdI (isK k) h.l) h.l, a⟩ : Hd V) := by
  refine ⟨fun i j x y hx hy h1 h2 h3 => ?_, by show a < (modI _ _ _).length; rw [modI_length]; exact ha⟩
  obtain ⟨x', a1, a2, a3, -⟩ := hget hx
  obtain ⟨y', b1, b2, b3, -⟩ := hget hy
  exact hn.uni i j x' y' a1 b1 (by rw [← a3]; exact h1) (by rw [← b3]; exact h2) (by rw [← a2, ← b2]; exact h3)
 have hat : ∀ {i : Nat} {x : Pl V}, h.l[i]? = some x → x.has = true → x.k = k → fdI (isK k) h.l = i := by
  intro i x hx h1 h2
  have hlt : fdI (isK k) h.l < h.l.length := by
   rcases Nat.lt_or_ge (fdI (isK k) h.l) h.l.length with hq | hq
   · exact hq
   · exfalso
     have hi := (List.getElem?_eq_some_iff.1 hx).1
     have := fdI_no (p := isK k) (l := h.l) (i := i) (x := x) (by omega) hx
     unfold isK at this
     rw [h1, h2] at this
     simp at this
  obtain ⟨y, hy, hp⟩ := fdI_lt hlt
  unfold isK at hp
  simp only [Bool.and_eq_true, beq_iff_eq] at hp
  exact hn.uni _ _ y x hy hx hp.1 h1 (by rw [hp.2, h2])
 refine ⟨hn', fun k' => ?_⟩
 apply Option.ext
 intro u
 rw [look_iff hn']
 constructor
 · rintro ⟨j, y, hy, h1, h2, h3⟩
   obtain ⟨x, a1, a2, a3, a4, a5⟩ := hget hy
   by_cases hk : k' = k
   · have hj := hat a1 (by rw [← a3]; exact h1) (by rw [← a2, h2, hk])
     have hsome : h.look k = some x.v := (look_iff hn).2 ⟨j, x, a1, by rw [← a3]; exact h1, by rw [← a2, h2, hk], rfl⟩
     rw [if_pos ⟨hk, by rw [hsome]; rfl⟩, ← h3, a4 hj.symm]
   · rw [if_neg (fun e => hk e.1)]
     by_cases hj : j = fdI (isK k) h.l
     · exfalso
       have hi := (List.getElem?_eq_some_iff.1 a1).1
       obtain ⟨z, hz, hp⟩ := fdI_lt (p := isK k) (l := h.l) (by omega)
       rw [← hj, a1] at hz
       cases hz
       unfold isK at hp
       simp only [Bool.and_eq_true, beq_iff_eq] at hp
       exact hk (by rw [← h2, a2, hp.2])
     · exact (look_iff hn).2 ⟨j, x, a1, by rw [← a3]; exact h1, by rw [← a2]; exact h2, by rw [← a5 hj]; exact h3⟩
 · intro e
   split at e
   · rename_i hc
     obtain ⟨hk, hs⟩ := hc
     cases e
     cases hl : h.look k with
     | none => rw [hl] at hs; cases hs
     | some z =>
      obtain ⟨i, x, hx, h1, h2, h3⟩ := (look_iff hn).1 hl
      have hi := hat hx h1 h2
      refine ⟨i, f x, ?_, by rw [(f1 x).2.2]; exact h1, by rw [(f1 x).1, h2, hk], (f1 x).2.1⟩
      show (modI f (fdI (isK k) h.l) h.l)[i]? = _
      rw [modI_get, if_pos hi.symm, hx]
      rfl
   · rename_i hc
     obtain ⟨i, x, hx, h1, h2, h3⟩ := (look_iff hn).1 e
     by_cases hi : i = fdI (isK k) h.l
     · exfalso
       have hil := (List.getElem?_eq_some_iff.1 hx).1
       obtain ⟨z, hz, hp⟩ := fdI_lt (p := isK k) (l := h.l) (by omega)
       rw [← hi, hx] at hz
       cases hz
       unfold isK at hp
       simp only [Bool.and_eq_true, beq_iff_eq] at hp
       refine hc ⟨by rw [← h2, hp.2], ?_⟩
       rw [(look_iff hn).2 ⟨i, x, hx, hp.1, hp.2, rfl⟩]
       rfl
     · refine ⟨i, x, ?_, h1, h2, h3⟩
       show (modI f (fdI (isK k) h.l) h.l)[i]? = _
       rw [modI_get, if_neg hi]
       exact hx
theorem swap_spec {h : Hd V} (hn : h.nice) (k : Int) (v : V) : (h.swap k v).nice ∧ (h.swap k v).l.length = h.l.length ∧ ∀ k', (h.swap k v).look k' = if k' = k ∧ (h.look k).isSome = true then some v else h.look k' := by
 obtain ⟨a1, a2⟩ := mod_spec hn k v (f := (·.swap v)) (fun x => rfl) h.at_ hn.lt
 exact ⟨a1, modI_length _ _ _, a2⟩
theorem set_spec {h : Hd V} (hn : h.nice) (k : Int) (v : V) (hk : h.look k = none) (i : Nat) (z : Pl V) (hz : h.l[i]? = some z) (a : Nat) (ha : a < h.l.length) :
 Hd.nice ⟨h.l.set i ⟨k, v, true, true⟩, a⟩ ∧ ∀ k', Hd.look ⟨h.l.set i ⟨k, v, true, true⟩, a⟩ k' = if k' = k then some v else if z.has = true ∧ k' = z.k then none else h.look k' := by
 have hi := (List.getElem?_eq_some_iff.1 hz).1
 have hno : ∀ {j : Nat} {y : Pl V}, h.l[j]? = some y → y.has = true → y.k ≠ k := fun {j y} hy h1 h2 => by
  rw [(look_iff hn).2 ⟨j, y, hy, h1, h2, rfl⟩] at hk
  cases hk
 have hget : ∀ {j : Nat} {y : Pl V}, (h.l.set i ⟨k, v, true, true⟩)[j]? = some y → (j = i ∧ y = ⟨k, v, true, true⟩) ∨ (j ≠ i ∧ h.l[j]? = some y) := by
  intro j y hy
  by_cases hj : j = i
  · subst hj
    rw [List.getElem?_set_self hi] at hy
    exact .inl ⟨rfl, (Option.some.inj hy).symm⟩
  · rw [List.getElem?_set_ne (Ne.symm hj)] at hy
    exact .inr ⟨hj, hy⟩
 have hn' : Hd.nice (⟨h.l.set i ⟨k, v, true, true⟩, a⟩ : Hd V) := by
  refine ⟨fun p q x y hx hy h1 h2 h3 => ?_, by show a < (List.set _ _ _).length; rw [List.length_set]; exact ha⟩
  rcases hget hx with ⟨rfl, rfl⟩ | ⟨e1, x1⟩
  · rcases hget hy with ⟨rfl, rfl⟩ | ⟨e2, y1⟩
    · rfl
    · exact absurd h3.symm (hno y1 h2)
  · rcases hget hy with ⟨rfl, rfl⟩ | ⟨e2, y1⟩
    · exact absurd h3 (hno x1 h1)
    · exact hn.uni p q x y x1 y1 h1 h2 h3
 refine ⟨hn', fun k' => ?_⟩
 apply Option.ext
 intro u
 rw [look_iff hn']
 constructor
 · rintro ⟨j, y, hy, h1, h2, h3⟩
   rcases hget hy with ⟨rfl, rfl⟩ | ⟨e1, y1⟩
   · rw [if_pos h2.symm, ← h3]
   · rw [if_neg (fun e => hno y1 h1 (by rw [h2, e])), if_neg (fun e => e1 (hn.uni j i y z y1 hz h1 e.1 (by rw [h2, e.2])))]
     exact (look_iff hn).2 ⟨j, y, y1, h1, h2, h3⟩
 · intro e
   split at e
   · rename_i hc
     cases e
     refine ⟨i, ⟨k, v, true, true⟩, ?_, rfl, hc.symm, rfl⟩
     show (h.l.set i _)[i]? = _
     rw [List.getElem?_set_self hi]
   · rename_i hc
     split at e
     · cases e
     · rename_i hd
       obtain ⟨j, x, hx, h1, h2, h3⟩ := (look_iff hn).1 e
       refine ⟨j, x, ?_, h1, h2, h3⟩
       show (h.l.set i _)[j]? = _
       rw [List.getElem?_set_ne (fun e => by
        subst e
        rw [hz] at hx
        cases hx
        exact hd ⟨h1, h2.symm⟩)]
       exact hx
theorem put_spec {h : Hd V} (hn : h.nice) (void : V) (k : Int) (v : V) : (h.put void k v).2.nice ∧ (h.put void k v).2.l.length = h.l.length ∧
 (((h.put void k v).1 = (0, void, false) ∧ ((h.look k).isSome = true ∨ ∃ x ∈ h.l, x.has = false) ∧ ∀ k', (h.put void k v).2.look k' = if k' = k then some v else h.look k') ∨
  (h.look k = none ∧ (∀ x ∈ h.l, x.has = true) ∧ ∃ k0 v0, k0 ≠ k ∧ (h.put void k v).1 = (k0, v0, true) ∧ h.look k0 = some v0 ∧ ∀ k', (h.put void k v).2.look k' = if k' = k then some v else if k' = k0 then none else h.look k')) := by
 have hlen := put_len h void v k
 by_cases h1 : fdI (isK k) h.l < h.l.length
 · obtain ⟨a1, a2⟩ := mod_spec hn k v (f := (·.with v)) (fun x => rfl) h.at_ hn.lt
   have hs : (h.look k).isSome = true := by
    obtain ⟨x, hx, hp⟩ := fdI_lt h1
    unfold Hd.look
    rw [hx]
    rfl
   have e : h.put void k v = ((0, void, false), ⟨modI (·.with v) (fdI (isK k) h.l) h.l, h.at_⟩) := by
    unfold Hd.put
    rw [if_pos h1]
   rw [e] at hlen ⊢
   refine ⟨a1, hlen, .inl ⟨rfl, .inl hs, fun k' => ?_⟩⟩
   rw [a2 k']
   by_cases e : k' = k
   · rw [if_pos ⟨e, hs⟩, if_pos e]
   · rw [if_neg (fun e2 => e e2.1), if_neg e]
 have hk : h.look k = none := by
  unfold Hd.look
  rw [List.getElem?_eq_none (by omega)]
  rfl
 by_cases h2 : fdI noH h.l < h.l.length
 · obtain ⟨z, hz, hp⟩ := fdI_lt h2
   have hzh : z.has = false := by
    unfold noH at hp
    simpa using hp
   obtain ⟨a1, a2⟩ := set_spec hn k v hk _ z hz h.at_ hn.lt
   have e : h.put void k v = ((0, void, false), ⟨h.l.set (fdI noH h.l) ⟨k, v, true, true⟩, h.at_⟩) := by
    unfold Hd.put
    rw [if_neg h1, if_pos h2]
   rw [e] at hlen ⊢
   refine ⟨a1, hlen, .inl ⟨rfl, .inr ⟨z, List.mem_of_getElem? hz, hzh⟩, fun k' => ?_⟩⟩
   rw [a2 k', hzh]
   simp
 obtain ⟨t1, t2, t3⟩ := turn_core (2 * h.l.length) h hn.lt
 have tl := core_len t1
 have tn := nice_core (g := (h.turn (2 * h.l.length)).2) t1 hn t2
 have tk := look_core t1 hn tn
 obtain ⟨z, hz⟩ : ∃ z, (h.turn (2 * h.l.length)).2.l[(h.turn (2 * h.l.length)).1]? = some z := ⟨_, List.getElem?_eq_getElem (by rw [tl]; exact t3)⟩
 have hall : ∀ x ∈ h.l, x.has = true := fun x hx => by
  obtain ⟨j, hj⟩ := List.getElem?_of_mem hx
  have hjl := (List.getElem?_eq_some_iff.1 hj).1
  have := fdI_no (p := noH) (l := h.l) (i := j) (x := x) (by omega) hj
  unfold noH at this
  simpa using this
 have hzh : z.has = true := by
  obtain ⟨y, hy, e1, -⟩ := core_get t1 hz
  rw [← e1]
  exact hall y (List.mem_of_getElem? hy)
 obtain ⟨a1, a2⟩ := set_spec tn k v (by rw [tk]; exact hk) _ z hz (h.turn (2 * h.l.length)).2.at_ (by rw [tl]; exact t2)
 have hzl : h.look z.k = some z.v := by
  rw [← tk]
  exact (look_iff tn).2 ⟨_, z, hz, hzh, rfl, rfl⟩
 have e : h.put void k v = ((z.k, z.v, true), ⟨(h.turn (2 * h.l.length)).2.l.set (h.turn (2 * h.l.length)).1 ⟨k, v, true, true⟩, (h.turn (2 * h.l.length)).2.at_⟩) := by
  unfold Hd.put
  rw [if_neg h1, if_neg h2, hz]
 rw [e] at hlen ⊢
 refine ⟨a1, hlen, .inr ⟨hk, hall, z.k, z.v, fun e => ?_, rfl, hzl, fun k' => ?_⟩⟩
 · rw [e, hk] at hzl
   cases hzl
 · rw [a2 k', tk k', hzh]
   simp
theorem mk_nice (void : V) {n : Nat} (hn : 0 < n) : (mkHd void n).nice ∧ ∀ k, (mkHd void n).look k = none := by
 have hx : ∀ {i : Nat} {x : Pl V}, (mkHd void n).l[i]? = some x → x.has = false := fun {i x} e => by
  rw [List.eq_of_mem_replicate (List.mem_of_getElem? e)]
 have hni : (mkHd void n).nice := ⟨fun i j x y e1 e2 h1 => (by rw [hx e1] at h1; cases h1), by show 0 < (List.replicate n _).length; rw [List.length_replicate]; exact hn⟩
 refine ⟨hni, fun k => ?_⟩
 cases e : (mkHd void n).look k with
 | none => rfl
 | some v =>
  obtain ⟨i, x, h1, h2, -⟩ := (look_iff hni).1 e
  rw [hx h1] at h2
  cases h2
theorem keys_iff {h : Hd V} (hn : h.nice) {k : Int} : k ∈ h.keys ↔ (h.look k).isSome = true := by
 unfold Hd.keys
 rw [List.mem_map]
 constructor
 · rintro ⟨x, hx, rfl⟩
   obtain ⟨h1, h2⟩ := List.mem_filter.1 hx
   obtain ⟨i, hi⟩ := List.getElem?_of_mem h1
   rw [(look_iff hn).2 ⟨i, x, hi, h2, rfl, rfl⟩]
   rfl
 · intro e
   cases hl : h.look k with
   | none => rw [hl] at e; cases e
   | some v =>
    obtain ⟨i, x, hx, h1, h2, -⟩ := (look_iff hn).1 hl
    exact ⟨x, List.mem_filter.2 ⟨List.mem_of_getElem? hx, h1⟩, h2⟩
theorem keys_nodup {h : Hd V} (hn : h.nice) : h.keys.Pairwise (· ≠ ·) := by
 unfold Hd.keys
 rw [List.pairwise_map, List.pairwise_filter, List.pairwise_iff_getElem]
 intro i j hi hj hij h1 h2 e
 have := hn.uni i j _ _ (List.getElem?_eq_getElem hi) (List.getElem?_eq_getElem hj) h1 h2 e
 omega
end
theorem dirtyK_some {H : Hd PFr} {k : Int} {x : Drt} : dirtyK H k = some x ↔ x.p = k ∧ ∃ f, H.look k = some f ∧ f.dirty = true ∧ x.r = f.rec_ := by
 unfold dirtyK
 cases h : H.look k with
 | none => simp
 | some f =>
  dsimp only
  split
  · rename_i hd
    constructor
    · intro e
      cases e
      exact ⟨rfl, f, rfl, hd, rfl⟩
    · rintro ⟨h1, g, h2, h3, h4⟩
      cases h2
      obtain ⟨xp, xr⟩ := x
      dsimp only at h1 h4
      rw [h1, h4]
  · rename_i hd
    constructor
    · intro e; cases e
    · rintro ⟨h1, g, h2, h3, h4⟩
      cases h2
      exact absurd h3 hd
theorem dirty_mem {H : Hd PFr} (hn : H.nice) {x : Drt} : x ∈ dirtyD H ↔ ∃ f, H.look x.p = some f ∧ f.dirty = true ∧ x.r = f.rec_ := by
 unfold dirtyD
 rw [List.mem_filterMap]
 constructor
 · rintro ⟨k, hk, e⟩
   obtain ⟨h1, h2⟩ := dirtyK_some.1 e
   rw [h1]
   exact h2
 · rintro ⟨f, h1, h2, h3⟩
   exact ⟨x.p, (keys_iff hn).2 (by rw [h1]; rfl), dirtyK_some.2 ⟨rfl, f, h1, h2, h3⟩⟩
theorem dirty_dist {H : Hd PFr} (hn : H.nice) : DDistinct (dirtyD H) := by
 unfold DDistinct dirtyD
 rw [List.pairwise_filterMap]
 refine (keys_nodup hn).imp ?_
 intro a b hab x hx y hy e
 exact hab (by rw [← (dirtyK_some.1 hx).1, ← (dirtyK_some.1 hy).1, e])
theorem dirty_is {H : Hd PFr} (hn : H.nice) {M E : List Drt} (hM : M.Perm (dirtyD H)) (hS : DSorted M) (hE : E.Pairwise fun a b => a.p < b.p) (hm : ∀ x, x ∈ E ↔ ∃ f, H.look x.p = some f ∧ f.dirty = true ∧ x.r = f.rec_) : M = E := by
 have hd : DDistinct M := (dirty_dist hn).perm hM.symm
 have hsE : DSorted E := hE.imp fun {a b} h => by
  unfold dl
  simp only [decide_eq_false_iff_not]
  omega
 have hdE : E.Pairwise (· ≠ ·) := hE.imp fun {a b} h e => by
  rw [e] at h
  omega
 have hdM : M.Pairwise (· ≠ ·) := hd.imp fun {a b} h e => h (by rw [e])
 refine dsorted_unique ?_ hS hsE hd
 refine (List.perm_ext_iff_of_nodup hdM hdE).2 fun x => ?_
 rw [hM.mem_iff, dirty_mem hn, hm]
end Go.Proofs.YtlcfoeikamkpmaaGreat

namespace Go.Proofs.YtlcfoeikamkpmaaGreat
open Go.Wh

structure PDk.well (D : PDk) : Prop where
 dead : D.dead = false
 plan : D.plan = none
 was : D.was = fun _ => none
theorem put_well {D : PDk} (hd : D.dead = false) (hp : D.plan = none) {i : Int} {l : List Int} (h0 : 0 ≤ i) (h1 : i < D.T.length) : D.put i l = (0, D.laid i.toNat l) := by
 have hm : D.may i = 0 := by
  unfold PDk.may
  rw [if_neg (by rw [hd]; decide), if_neg (by omega)]
 unfold PDk.put
 rw [hm, if_neg (by decide)]
 exact PDk.done_plain (D := D.laid i.toNat l) hp
theorem sync_well {D : PDk} (hd : D.dead = false) (hp : D.plan = none) : D.sync = (0, { D with was := fun _ => none }) := by
 have hc : D.cuts = false := by
  unfold PDk.cuts
  rw [hp]
 unfold PDk.sync
 rw [if_neg (by rw [hd]; decide), if_neg (by rw [hc]; decide)]
 unfold PDk.less
 rw [hp]
 rfl
theorem two_well {D : PDk} (hd : D.dead = false) (hp : D.plan = none) {i : Int} {a b : List Int} (h0 : 0 ≤ i) (h1 : i + 1 < D.T.length) :
 ∃ D', D.two i a b = (0, D') ∧ D'.well ∧ D'.T = (D.T.set i.toNat a).set (i.toNat + 1) b := by
 have e1 := put_well (l := a) hd hp h0 (show i < D.T.length by omega)
 have hd2 : (D.laid i.toNat a).dead = false := hd
 have hp2 : (D.laid i.toNat a).plan = none := hp
 have hl2 : (D.laid i.toNat a).T.length = D.T.length := List.length_set
 have e2 := put_well (l := b) hd2 hp2 (show 0 ≤ i + 1 by omega) (show i + 1 < (D.laid i.toNat a).T.length by rw [hl2]; omega)
 have hd3 : ((D.laid i.toNat a).laid (i + 1).toNat b).dead = false := hd
 have hp3 : ((D.laid i.toNat a).laid (i + 1).toNat b).plan = none := hp
 refine ⟨{ ((D.laid i.toNat a).laid (i + 1).toNat b) with was := fun _ => none }, ?_, ⟨hd3, hp3, rfl⟩, ?_⟩
 · unfold PDk.two
   rw [e1]
   dsimp only
   rw [if_neg (by decide), e2]
   dsimp only
   rw [if_neg (by decide), sync_well hd3 hp3]
 · show (D.T.set i.toNat a).set (i + 1).toNat b = _
   rw [show (i + 1).toNat = i.toNat + 1 by omega]
def onD (cf : PCf) (D : PDk) (k : Int) (p : PPg) : Prop := takeT (D.T.getD (cf.first + (2 * k).toNat) []) (D.T.getD (cf.first + (2 * k + 1).toNat) []) = (0, p)
structure PPg.fit (p : PPg) : Prop where
 ok : p.ok
 lsn : lsnMay p.lsn = true
 cell : ∀ l ∈ p.c, l = [] ∨ (cellT l = true ∧ nought l = false)
theorem fit_norm {p : PPg} (h : p.fit) : p.norm = p := by
 obtain ⟨c, z⟩ := p
 unfold PPg.norm
 congr 1
 have key : ∀ l ∈ c, (if nought (fullB l) then [] else fullB l) = l := fun l hl => by
  rcases h.cell l hl with rfl | ⟨_, e⟩
  · rfl
  · have hne : l ≠ [] := fun e2 => by
     rw [e2] at e
     cases e
    unfold fullB
    rw [if_neg hne, e]
    rfl
 rw [List.map_congr_left key]
 exact List.map_id _
theorem fit_take {p : PPg} (h : p.fit) : takeT (leafA p) (leafB p) = (0, p) := by
 have := takeT_leaf h.ok h.lsn fun l hl => (h.cell l hl).imp id fun e => e.1
 rw [this, fit_norm h]
theorem fit_may {p : PPg} (h : p.fit) : p.may = true := by
 unfold PPg.may
 rw [h.lsn, Bool.true_and, List.all_eq_true]
 intro l hl
 rcases h.ok.each l hl with e | e
 · rw [e]; rfl
 · rw [e]; simp
theorem fit_void : PPg.void.fit := by
 refine ⟨⟨rfl, fun l hl => ?_, fun l hl => ?_⟩, by decide, fun l hl => ?_⟩ <;>
  · have : l ∈ ([[], [], [], []] : List (List Int)) := hl
    simp only [List.mem_cons, List.not_mem_nil, or_false] at this
    rcases this with rfl | rfl | rfl | rfl <;> first | exact .inl rfl | (intro z hz; cases hz)
structure Good (cf : PCf) (s : PSt) (C : Int → PPg) : Prop where
 well : s.D.well
 sep : cf.first + 2 * cf.pages ≤ cf.at_
 room : cf.at_ + cf.n ≤ s.D.T.length
 nice : s.H.nice
 st_le : s.st ≤ s.es.length
 fit : ∀ k : Int, 0 ≤ k → k < cf.pages → (C k).fit
 key : ∀ k f, s.H.look k = some f → 0 ≤ k ∧ k < cf.pages ∧ f.p = C k ∧ (f.dirty = false → onD cf s.D k (C k))
 none : ∀ k : Int, 0 ≤ k → k < cf.pages → s.H.look k = none → onD cf s.D k (C k)
section
variable {cf : PCf} {s : PSt} {C : Int → PPg}
def stW (cf : PCf) (s : PSt) (z : Int) : Nat := if cf.tr = true ∧ (s.st : Int) < z then s.es.length else s.st
theorem ahead_well (hw : s.D.well) (f : PFr) : ∃ D', s.ahead cf f = (0, ⟨D', s.es, stW cf s f.p.lsn, s.H⟩) ∧ D'.well ∧ D'.T.length = s.D.T.length ∧ ∀ j, j < cf.at_ → D'.T[j]? = s.D.T[j]? := by
 unfold PSt.ahead stW
 split
 · unfold PSt.force foB
   by_cases hs : s.st = s.es.length
   · rw [if_pos hs]
     exact ⟨s.D, by rw [← hs], hw, rfl, fun _ _ => rfl⟩
   · rw [if_neg hs, if_neg (by rw [hw.dead]; decide)]
     obtain ⟨h1, h2⟩ := PDk.clean_plain (S := streamB s.es) (at_ := cf.at_) (n := cf.n) hw.dead hw.plan
     obtain ⟨k1, k2, k3, k4⟩ := PDk.clean_ok (S := streamB s.es) (at_ := cf.at_) (n := cf.n) (PDk.fine_none hw.plan) hw.dead hw.was h1
     refine ⟨(s.D.clean cf.at_ (streamB s.es) cf.n).2, ?_, ⟨k2, h2, k4⟩, ?_, fun j hj => ?_⟩
     · dsimp only
       rw [h1, if_pos rfl]
     · rw [k3, layB_length]
     · rw [k3]
       exact layB_other (.inl hj)
 · exact ⟨s.D, rfl, hw, rfl, fun _ _ => rfl⟩
theorem getD_same {T U : List (List Int)} {j : Nat} (h : T[j]? = U[j]?) : T.getD j [] = U.getD j [] := by
 rw [List.getD_eq_getElem?_getD, List.getD_eq_getElem?_getD, h]
theorem write_well (h : Good cf s C) {k : Int} {f : PFr} (h0 : 0 ≤ k) (h1 : k < cf.pages) (hf : f.p = C k) :
 ∃ D', s.write cf k f = (0, ⟨D', s.es, stW cf s (C k).lsn, s.H⟩) ∧ D'.well ∧ D'.T.length = s.D.T.length ∧ onD cf D' k (C k) ∧ ∀ (j : Int) p, 0 ≤ j → j < cf.pages → j ≠ k → onD cf s.D j p → onD cf D' j p := by
 obtain ⟨D1, e1, w1, l1, t1⟩ := ahead_well h.well f
 have hsep := h.sep
 have hroom := h.room
 obtain ⟨D2, e2, w2, t2⟩ := two_well (D := D1) (i := (cf.first : Int) + 2 * k) (a := leafA f.p) (b := leafB f.p) w1.dead w1.plan (by omega) (by rw [l1]; omega)
 have ht : ((cf.first : Int) + 2 * k).toNat = cf.first + (2 * k).toNat := by omega
 rw [ht] at t2
 have hl2 : D2.T.length = s.D.T.length := by
  rw [t2, List.length_set, List.length_set, l1]
 refine ⟨D2, ?_, w2, hl2, ?_, fun j p j0 j1 jk hj => ?_⟩
 · unfold PSt.write
   rw [e1]
   dsimp only
   rw [if_neg (by decide), if_neg (by rw [hf, fit_may (h.fit k h0 h1)]; decide), e2]
   rw [hf]
 · unfold onD
   rw [show (2 * k + 1).toNat = (2 * k).toNat + 1 by omega, ← Nat.add_assoc, t2]
   rw [List.getD_eq_getElem?_getD, List.getD_eq_getElem?_getD, List.getElem?_set_ne (by omega), List.getElem?_set_self (by rw [l1]; omega), List.getElem?_set_self (by rw [List.length_set, l1]; omega)]
   rw [hf]
   exact fit_take (h.fit k h0 h1)
 · unfold onD at hj ⊢
   have key : ∀ q : Nat, q < cf.at_ → q ≠ cf.first + (2 * k).toNat → q ≠ cf.first + (2 * k).toNat + 1 → D2.T.getD q [] = s.D.T.getD q [] := fun q q0 q1 q2 => getD_same (by
    rw [t2, List.getElem?_set_ne (Ne.symm q2), List.getElem?_set_ne (Ne.symm q1)]
    exact t1 q q0)
   rw [key _ (by omega) (by omega) (by omega), key _ (by omega) (by omega) (by omega)]
   exact hj
def Last (s : PSt) : Prop := s.st = s.es.length ∨ ∃ k f, s.H.look k = some f ∧ f.dirty = true ∧ f.p.lsn = (s.es.length : Int)
theorem stW_last (h : s.st ≤ s.es.length) (ht : cf.tr = true) : stW cf s (s.es.length : Int) = s.es.length := by
 unfold stW
 split
 · rfl
 · rename_i e
   have : ¬ (s.st : Int) < s.es.length := fun e2 => e ⟨ht, e2⟩
   omega
theorem stW_done (h : s.st = s.es.length) (z : Int) : stW cf s z = s.es.length := by
 unfold stW
 split
 · rfl
 · exact h
theorem lay_well (h : Good cf s C) {k : Int} (h0 : 0 ≤ k) (h1 : k < cf.pages) (hk : s.H.look k = Option.none) :
 ∃ s', s.lay cf k ⟨C k, false, 0⟩ = (0, s') ∧ Good cf s' C ∧ s'.es = s.es ∧ s'.H.l.length = s.H.l.length ∧ s'.H.look k = some ⟨C k, false, 0⟩ ∧ s.st ≤ s'.st ∧ (∀ j, dirtyK s'.H j = dirtyK s.H j ∨ dirtyK s'.H j = Option.none) ∧
  ((∃ x ∈ s.H.l, x.has = false) → ∀ j, dirtyK s'.H j = dirtyK s.H j) ∧ (cf.tr = true → Last s → Last s') := by
 obtain ⟨n1, n2, n3⟩ := put_spec h.nice PFr.void k ⟨C k, false, 0⟩
 have hon := h.none k h0 h1 hk
 rcases n3 with ⟨e, hr, hlook⟩ | ⟨_, hall, k0, v0, hk0, e, hv0, hlook⟩
 · have hd : ∀ j, dirtyK (s.H.put PFr.void k ⟨C k, false, 0⟩).2 j = dirtyK s.H j := fun j => by
    unfold dirtyK
    rw [hlook j]
    by_cases hj : j = k
    · rw [if_pos hj, hj, hk]
      rfl
    · rw [if_neg hj]
   refine ⟨{ s with H := (s.H.put PFr.void k ⟨C k, false, 0⟩).2 }, ?_, ⟨h.well, h.sep, h.room, n1, h.st_le, h.fit, fun j f hf => ?_, fun j j0 j1 hj => ?_⟩, rfl, n2, ?_, Nat.le_refl _, fun j => .inl (hd j), fun _ => hd, fun _ hL => ?_⟩
   · unfold PSt.lay
     rw [e, if_neg (by simp), if_neg (by simp)]
   · have hf' : (s.H.put PFr.void k ⟨C k, false, 0⟩).2.look j = some f := hf
     rw [hlook j] at hf'
     split at hf'
     · rename_i hj
       cases hf'
       subst hj
       exact ⟨h0, h1, rfl, fun _ => hon⟩
     · exact h.key j f hf'
   · have hj' : (s.H.put PFr.void k ⟨C k, false, 0⟩).2.look j = Option.none := hj
     rw [hlook j] at hj'
     split at hj'
     · cases hj'
     · exact h.none j j0 j1 hj'
   · show (s.H.put PFr.void k ⟨C k, false, 0⟩).2.look k = _
     rw [hlook k, if_pos rfl]
   · rcases hL with e | ⟨q, f, q1, q2, q3⟩
     · exact .inl e
     · refine .inr ⟨q, f, ?_, q2, q3⟩
       show (s.H.put PFr.void k ⟨C k, false, 0⟩).2.look q = _
       rw [hlook q, if_neg (fun e => by rw [e, hk] at q1; cases q1)]
       exact q1
 · obtain ⟨a0, a1, a2, a3⟩ := h.key k0 v0 hv0
   have hno : ¬ ∃ x ∈ s.H.l, x.has = false := fun ⟨x, hx, e⟩ => by
    rw [hall x hx] at e
    cases e
   have hdj : ∀ j, dirtyK (s.H.put PFr.void k ⟨C k, false, 0⟩).2 j = dirtyK s.H j ∨ dirtyK (s.H.put PFr.void k ⟨C k, false, 0⟩).2 j = Option.none := fun j => by
    unfold dirtyK
    rw [hlook j]
    by_cases hj : j = k
    · rw [if_pos hj]
      exact .inr rfl
    · rw [if_neg hj]
      by_cases hj0 : j = k0
      · rw [if_pos hj0]
        exact .inr rfl
      · rw [if_neg hj0]
        exact .inl rfl
   have hlk : (s.H.put PFr.void k ⟨C k, false, 0⟩).2.look k = some ⟨C k, false, 0⟩ := by rw [hlook k, if_pos rfl]
   by_cases hd : v0.dirty = true
   · obtain ⟨D', ew, ww, lw, ow, kw⟩ := write_well h a0 a1 a2
     refine ⟨⟨D', s.es, stW cf s (C k0).lsn, (s.H.put PFr.void k ⟨C k, false, 0⟩).2⟩, ?_, ⟨ww, h.sep, by rw [lw]; exact h.room, n1, ?_, h.fit, fun j f hf => ?_, fun j j0 j1 hj => ?_⟩, rfl, n2, hlk, ?_, hdj, fun e => absurd e hno, fun ht hL => ?_⟩
     · unfold PSt.lay
       rw [e]
       dsimp only
       rw [ew, if_neg (by simp), if_pos ⟨rfl, hd⟩]
     · show stW cf s _ ≤ s.es.length
       unfold stW
       split
       · exact Nat.le_refl _
       · exact h.st_le
     · have hf' : (s.H.put PFr.void k ⟨C k, false, 0⟩).2.look j = some f := hf
       rw [hlook j] at hf'
       split at hf'
       · rename_i hj
         cases hf'
         subst hj
         exact ⟨h0, h1, rfl, fun _ => kw j (C j) h0 h1 (fun e => hk0 e.symm) hon⟩
       · rename_i hj
         split at hf'
         · cases hf'
         · rename_i hj0
           obtain ⟨b0, b1, b2, b3⟩ := h.key j f hf'
           exact ⟨b0, b1, b2, fun e => kw j (C j) b0 b1 hj0 (b3 e)⟩
     · have hj' : (s.H.put PFr.void k ⟨C k, false, 0⟩).2.look j = Option.none := hj
       rw [hlook j] at hj'
       split at hj'
       · cases hj'
       · rename_i hjk
         by_cases hj0 : j = k0
         · rw [hj0]
           exact ow
         · rw [if_neg hj0] at hj'
           exact kw j (C j) j0 j1 hj0 (h.none j j0 j1 hj')
     · show s.st ≤ stW cf s _
       unfold stW
       split
       · exact h.st_le
       · exact Nat.le_refl _
     · rcases hL with e | ⟨q, f, q1, q2, q3⟩
       · exact .inl (stW_done e _)
       · by_cases hq : q = k0
         · refine .inl ?_
           show stW cf s (C k0).lsn = s.es.length
           rw [hq, hv0] at q1
           cases q1
           rw [← a2, q3]
           exact stW_last h.st_le ht
         · refine .inr ⟨q, f, ?_, q2, q3⟩
           show (s.H.put PFr.void k ⟨C k, false, 0⟩).2.look q = _
           rw [hlook q, if_neg (fun e => by rw [e, hk] at q1; cases q1), if_neg hq]
           exact q1
   · have hd' : v0.dirty = false := by simpa using hd
     refine ⟨{ s with H := (s.H.put PFr.void k ⟨C k, false, 0⟩).2 }, ?_, ⟨h.well, h.sep, h.room, n1, h.st_le, h.fit, fun j f hf => ?_, fun j j0 j1 hj => ?_⟩, rfl, n2, hlk, Nat.le_refl _, hdj, fun e => absurd e hno, fun _ hL => ?_⟩
     · unfold PSt.lay
       rw [e, if_neg (fun e => hd e.2.1), if_neg (fun e => hd e.2)]
     · have hf' : (s.H.put PFr.void k ⟨C k, false, 0⟩).2.look j = some f := hf
       rw [hlook j] at hf'
       split at hf'
       · rename_i hj
         cases hf'
         subst hj
         exact ⟨h0, h1, rfl, fun _ => hon⟩
       · split at hf'
         · cases hf'
         · exact h.key j f hf'
     · have hj' : (s.H.put PFr.void k ⟨C k, false, 0⟩).2.look j = Option.none := hj
       rw [hlook j] at hj'
       split at hj'
       · cases hj'
       · by_cases hj0 : j = k0
         · rw [hj0]
           exact a3 hd'
         · rw [if_neg hj0] at hj'
           exact h.none j j0 j1 hj'
     · rcases hL with e | ⟨q, f, q1, q2, q3⟩
       · exact .inl e
       · refine .inr ⟨q, f, ?_, q2, q3⟩
         show (s.H.put PFr.void k ⟨C k, false, 0⟩).2.look q = _
         rw [hlook q, if_neg (fun e => by rw [e, hk] at q1; cases q1), if_neg (fun e => by rw [e, hv0] at q1; cases q1; rw [hd'] at q2; cases q2)]
         exact q1
end
end Go.Proofs.YtlcfoeikamkpmaaGreat

namespace Go.Proofs.YtlcfoeikamkpmaaGreat
open Go.Wh

section
variable {cf : PCf} {s : PSt} {C : Int → PPg}
theorem may_in {k : Int} (h0 : 0 ≤ k) (h1 : k < cf.pages) : cf.may k = true := by
 unfold PCf.may
 simp [h0, h1]
theorem pigeon3 (h : Good cf s C) (hp : cf.pages = 3) (hl : s.H.l.length = 3) {k : Int} (h0 : 0 ≤ k) (h1 : k < cf.pages) (hk : s.H.look k = none) : ∃ x ∈ s.H.l, x.has = false := by
 apply Classical.byContradiction
 intro hno
 have hall : ∀ x ∈ s.H.l, x.has = true := fun x hx => by
  cases e : x.has with
  | true => rfl
  | false => exact absurd ⟨x, hx, e⟩ hno
 obtain ⟨x, hx⟩ : ∃ x, s.H.l[0]? = some x := ⟨_, List.getElem?_eq_getElem (by omega)⟩
 obtain ⟨y, hy⟩ : ∃ x, s.H.l[1]? = some x := ⟨_, List.getElem?_eq_getElem (by omega)⟩
 obtain ⟨z, hz⟩ : ∃ x, s.H.l[2]? = some x := ⟨_, List.getElem?_eq_getElem (by omega)⟩
 have key : ∀ {i : Nat} {x : Pl PFr}, s.H.l[i]? = some x → 0 ≤ x.k ∧ x.k < 3 ∧ x.k ≠ k := fun {i x} e => by
  have hl := (look_iff h.nice).2 ⟨i, x, e, hall x (List.mem_of_getElem? e), rfl, rfl⟩
  obtain ⟨a, b, -⟩ := h.key _ _ hl
  refine ⟨a, by omega, fun e2 => ?_⟩
  rw [e2, hk] at hl
  cases hl
 have uni : ∀ {i j : Nat} {x y : Pl PFr}, s.H.l[i]? = some x → s.H.l[j]? = some y → i ≠ j → x.k ≠ y.k := fun {i j x y} e1 e2 hne e => hne (h.nice.uni i j x y e1 e2 (hall x (List.mem_of_getElem? e1)) (hall y (List.mem_of_getElem? e2)) e)
 have kx := key hx
 have ky := key hy
 have kz := key hz
 have u1 := uni hx hy (by decide)
 have u2 := uni hx hz (by decide)
 have u3 := uni hy hz (by decide)
 omega
theorem get_well (h : Good cf s C) {k : Int} (h0 : 0 ≤ k) (h1 : k < cf.pages) :
 ∃ f s', s.get cf k = (0, f, s') ∧ f.p = C k ∧ Good cf s' C ∧ s'.es = s.es ∧ s'.H.l.length = s.H.l.length ∧ s'.H.look k = some f ∧ s.st ≤ s'.st ∧ (∀ j, dirtyK s'.H j = dirtyK s.H j ∨ dirtyK s'.H j = Option.none) ∧ dirtyK s'.H k = dirtyK s.H k ∧
  (cf.pages = 3 → s.H.l.length = 3 → ∀ j, dirtyK s'.H j = dirtyK s.H j) ∧ (cf.tr = true → Last s → Last s') := by
 have hm := may_in (cf := cf) h0 h1
 unfold PSt.get
 rw [if_neg (by rw [hm]; decide)]
 cases hl : s.H.look k with
 | some f =>
  obtain ⟨t1, t2, t3⟩ := touch_spec h.nice k
  obtain ⟨-, -, hf, -⟩ := h.key k f hl
  have hd : ∀ j, dirtyK (s.H.touch k) j = dirtyK s.H j := fun j => by
   unfold dirtyK
   rw [t3 j]
  refine ⟨f, { s with H := s.H.touch k }, rfl, hf, ⟨h.well, h.sep, h.room, t1, h.st_le, h.fit, fun j g hj => h.key j g (by rw [← t3 j]; exact hj), fun j j0 j1 hj => h.none j j0 j1 (by rw [← t3 j]; exact hj)⟩, rfl, t2, by show (s.H.touch k).look k = _; rw [t3 k, hl], Nat.le_refl _, fun j => .inl (hd j), hd k, fun _ _ => hd, fun _ hL => ?_⟩
  rcases hL with e | ⟨q, g, q1, q2, q3⟩
  · exact .inl e
  · exact .inr ⟨q, g, by show (s.H.touch k).look q = _; rw [t3 q, q1], q2, q3⟩
 | none =>
  obtain ⟨s', e, g1, g2, g3, g4, g5, g6, g7, g8⟩ := lay_well h h0 h1 hl
  have hon : takeT (s.tile cf (2 * k)) (s.tile cf (2 * k + 1)) = (0, C k) := h.none k h0 h1 hl
  simp only
  rw [if_neg (by rw [h.well.dead]; decide), hon]
  dsimp only
  rw [if_neg (by decide), e]
  refine ⟨_, s', rfl, rfl, g1, g2, g3, g4, g5, g6, ?_, fun hp hn => g7 (pigeon3 h hp hn h0 h1 hl), g8⟩
  unfold dirtyK
  rw [g4, hl]
  rfl
theorem page_well (h : Good cf s C) {k : Int} (h0 : 0 ≤ k) (h1 : k < cf.pages) :
 ∃ s', s.page cf k = (0, C k, s') ∧ Good cf s' C ∧ s'.es = s.es ∧ s'.H.l.length = s.H.l.length ∧ s.st ≤ s'.st ∧ (∀ j, dirtyK s'.H j = dirtyK s.H j ∨ dirtyK s'.H j = Option.none) ∧ (cf.tr = true → Last s → Last s') := by
 obtain ⟨f, s', e, hf, g1, g2, g3, -, g5, g6, -, -, g7⟩ := get_well h h0 h1
 refine ⟨s', ?_, g1, g2, g3, g5, g6, g7⟩
 unfold PSt.page
 rw [e, if_pos rfl, hf]
def putC (C : Int → PPg) (k : Int) (i : Nat) (b : List Int) (z : Int) : Int → PPg := fun j => if j = k then (C k).set i b z else C j
theorem fit_set {p : PPg} (h : p.fit) {i : Nat} {b : List Int} {z : Int} (hb : b = [] ∨ (b.length = 26 ∧ cellT b = true ∧ nought b = false ∧ Byt b)) (hz : lsnMay z = true) : (p.set i b z).fit := by
 refine ⟨⟨?_, fun l hl => ?_, fun l hl => ?_⟩, hz, fun l hl => ?_⟩
 · show (p.c.set i b).length = 4
   rw [List.length_set, h.ok.four]
 · rcases List.mem_or_eq_of_mem_set hl with e | e
   · exact h.ok.each l e
   · rw [e]
     exact hb.imp id fun e => e.1
 · rcases List.mem_or_eq_of_mem_set hl with e | e
   · exact h.ok.byt l e
   · rw [e]
     rcases hb with e2 | e2
     · rw [e2]
       intro z hz
       cases hz
     · exact e2.2.2.2
 · rcases List.mem_or_eq_of_mem_set hl with e | e
   · exact h.cell l e
   · rw [e]
     exact hb.imp id fun e => ⟨e.2.1, e.2.2.1⟩
theorem set_well (h : Good cf s C) {k i : Int} (h0 : 0 ≤ k) (h1 : k < cf.pages) (i0 : 0 ≤ i) (i4 : i < 4) {b : List Int} {z : Int} (hb : b = [] ∨ (b.length = 26 ∧ cellT b = true ∧ nought b = false ∧ Byt b)) (hz : lsnMay z = true) (hlt : (C k).lsn < z) :
 ∃ s', s.set cf k i b z = (0, s') ∧ Good cf s' (putC C k i.toNat b z) ∧ s'.es = s.es ∧ s'.H.l.length = s.H.l.length ∧ s.st ≤ s'.st ∧
  dirtyK s'.H k = some ⟨k, match dirtyK s.H k with | some x => x.r | none => z⟩ ∧ (∀ j, j ≠ k → dirtyK s'.H j = dirtyK s.H j ∨ dirtyK s'.H j = Option.none) ∧
  (cf.pages = 3 → s.H.l.length = 3 → ∀ j, j ≠ k → dirtyK s'.H j = dirtyK s.H j) ∧ (z = (s.es.length : Int) → Last s') := by
 obtain ⟨f, s1, e, hf, g1, g2, g3, g4, g5, g6, g7, g8, -⟩ := get_well h h0 h1
 unfold PSt.set
 rw [e]
 dsimp only
 rw [if_neg (by decide), if_neg (by
  rintro (h | h | h)
  · omega
  · omega
  · rcases hb with e | e
    · rw [e] at h
      exact h.1 rfl
    · exact h.2 e.1), if_neg (by rw [hf]; omega)]
 obtain ⟨p1, p2, p3⟩ := put_spec g1.nice PFr.void k ⟨f.p.set i.toNat b z, true, if f.dirty = true then f.rec_ else z⟩
 have hlook : ∀ j, (s1.H.put PFr.void k ⟨f.p.set i.toNat b z, true, if f.dirty = true then f.rec_ else z⟩).2.look j = if j = k then some ⟨f.p.set i.toNat b z, true, if f.dirty = true then f.rec_ else z⟩ else s1.H.look j := by
  rcases p3 with ⟨-, -, hq⟩ | ⟨hq, -⟩
  · exact hq
  · rw [g4] at hq
    cases hq
 refine ⟨_, rfl, ⟨g1.well, g1.sep, g1.room, p1, g1.st_le, fun j j0 j1 => ?_, fun j g hj => ?_, fun j j0 j1 hj => ?_⟩, g2, by show (s1.H.put _ _ _).2.l.length = _; rw [p2, g3], g5, ?_, fun j hj => ?_, fun a1 a2 j hj => ?_, fun hz2 => ?_⟩
 · unfold putC
   split
   · rename_i hj
     exact fit_set (h.fit k h0 h1) hb hz
   · exact h.fit j j0 j1
 · have hj' : (s1.H.put PFr.void k ⟨f.p.set i.toNat b z, true, if f.dirty = true then f.rec_ else z⟩).2.look j = some g := hj
   rw [hlook j] at hj'
   unfold putC
   split at hj'
   · rename_i e2
     cases hj'
     rw [if_pos e2, ← hf, e2]
     exact ⟨h0, h1, rfl, fun e => by cases e⟩
   · rename_i e2
     rw [if_neg e2]
     exact g1.key j g hj'
 · have hj' : (s1.H.put PFr.void k ⟨f.p.set i.toNat b z, true, if f.dirty = true then f.rec_ else z⟩).2.look j = Option.none := hj
   rw [hlook j] at hj'
   unfold putC
   split at hj'
   · cases hj'
   · rename_i e2
     rw [if_neg e2]
     exact g1.none j j0 j1 hj'
 · rw [← g7]
   unfold dirtyK
   show (match (s1.H.put PFr.void k ⟨f.p.set i.toNat b z, true, if f.dirty = true then f.rec_ else z⟩).2.look k with | some f => if f.dirty = true then some (⟨k, f.rec_⟩ : Drt) else none | none => none) = _
   rw [hlook k, if_pos rfl, g4]
   dsimp only
   rw [if_pos rfl]
   by_cases hd : f.dirty = true
   · rw [if_pos hd, if_pos hd]
   · rw [if_neg hd, if_neg hd]
 · have : dirtyK (s1.H.put PFr.void k ⟨f.p.set i.toNat b z, true, if f.dirty = true then f.rec_ else z⟩).2 j = dirtyK s1.H j := by
    unfold dirtyK
    rw [hlook j, if_neg hj]
   show dirtyK (s1.H.put PFr.void k _).2 j = _ ∨ dirtyK (s1.H.put PFr.void k _).2 j = _
   rw [this]
   exact g6 j
 · have : dirtyK (s1.H.put PFr.void k ⟨f.p.set i.toNat b z, true, if f.dirty = true then f.rec_ else z⟩).2 j = dirtyK s1.H j := by
    unfold dirtyK
    rw [hlook j, if_neg hj]
   show dirtyK (s1.H.put PFr.void k _).2 j = _
   rw [this]
   exact g8 a1 a2 j
 · refine .inr ⟨k, _, (hlook k).trans (if_pos rfl), rfl, ?_⟩
   show z = (s1.es.length : Int)
   rw [g2]
   exact hz2
theorem flush_well (h : Good cf s C) {k : Int} (h0 : 0 ≤ k) (h1 : k < cf.pages) :
 ∃ s', s.flush cf k = (0, s') ∧ Good cf s' C ∧ s'.es = s.es ∧ s'.H.l.length = s.H.l.length ∧ s.st ≤ s'.st ∧ dirtyK s'.H k = Option.none ∧ (∀ j, j ≠ k → dirtyK s'.H j = dirtyK s.H j) ∧ (cf.tr = true → Last s → Last s') := by
 have hm := may_in (cf := cf) h0 h1
 unfold PSt.flush
 rw [if_neg (by rw [hm]; decide)]
 cases hl : s.H.look k with
 | none => exact ⟨s, rfl, h, rfl, rfl, Nat.le_refl _, by unfold dirtyK; rw [hl], fun _ _ => rfl, fun _ e => e⟩
 | some f =>
  obtain ⟨-, -, hf, -⟩ := h.key k f hl
  simp only
  by_cases hd : f.dirty = false
  · rw [if_pos hd]
    exact ⟨s, rfl, h, rfl, rfl, Nat.le_refl _, by unfold dirtyK; rw [hl]; simp [hd], fun _ _ => rfl, fun _ e => e⟩
  · rw [if_neg hd]
    obtain ⟨D', ew, ww, lw, ow, kw⟩ := write_well h h0 h1 hf
    rw [ew]
    dsimp only
    rw [if_neg (by decide)]
    obtain ⟨t1, t2, t3⟩ := swap_spec h.nice k { f with dirty := false }
    have hlk : ∀ j, (s.H.swap k { f with dirty := false }).look j = if j = k then some { f with dirty := false } else s.H.look j := fun j => by
     rw [t3 j, hl]
     simp
    refine ⟨⟨D', s.es, stW cf s (C k).lsn, s.H.swap k { f with dirty := false }⟩, rfl, ⟨ww, h.sep, by rw [lw]; exact h.room, t1, ?_, h.fit, fun j g hj => ?_, fun j j0 j1 hj => ?_⟩, rfl, t2, ?_, ?_, fun j hj => ?_, fun ht hL => ?_⟩
    · show stW cf s _ ≤ s.es.length
      unfold stW
      split
      · exact Nat.le_refl _
      · exact h.st_le
    · have hj' : (s.H.swap k { f with dirty := false }).look j = some g := hj
      rw [hlk j] at hj'
      split at hj'
      · rename_i e2
        cases hj'
        rw [e2]
        exact ⟨h0, h1, hf, fun _ => ow⟩
      · rename_i e2
        obtain ⟨b0, b1, b2, b3⟩ := h.key j g hj'
        exact ⟨b0, b1, b2, fun e => kw j (C j) b0 b1 e2 (b3 e)⟩
    · have hj' : (s.H.swap k { f with dirty := false }).look j = Option.none := hj
      rw [hlk j] at hj'
      split at hj'
      · cases hj'
      · rename_i e2
        exact kw j (C j) j0 j1 e2 (h.none j j0 j1 hj')
    · show s.st ≤ stW cf s _
      unfold stW
      split
      · exact h.st_le
      · exact Nat.le_refl _
    · show dirtyK (s.H.swap k { f with dirty := false }) k = _
      unfold dirtyK
      rw [hlk k, if_pos rfl]
      simp
    · show dirtyK (s.H.swap k { f with dirty := false }) j = _
      unfold dirtyK
      rw [hlk j, if_neg hj]
    · rcases hL with e | ⟨q, g, q1, q2, q3⟩
      · exact .inl (stW_done e _)
      · by_cases hq : q = k
        · refine .inl ?_
          show stW cf s (C k).lsn = s.es.length
          rw [hq, hl] at q1
          cases q1
          rw [← hf, q3]
          exact stW_last h.st_le ht
        · refine .inr ⟨q, g, ?_, q2, q3⟩
          show (s.H.swap k { f with dirty := false }).look q = _
          rw [hlk q, if_neg hq]
          exact q1
theorem append_well (h : Good cf s C) (p : PE) : Good cf { s with es := s.es ++ [p] } C :=
 ⟨h.well, h.sep, h.room, h.nice, by show s.st ≤ (s.es ++ [p]).length; rw [List.length_append]; have := h.st_le; omega, h.fit, h.key, h.none⟩
end
theorem new_well {m n : Nat} {cf : PCf} (hsep : cf.first + 2 * cf.pages ≤ cf.at_) (hr : cf.at_ + cf.n ≤ m) (hn : 0 < n) : Good cf ⟨newD m, [], 0, mkHd PFr.void n⟩ (fun _ => PPg.void) := by
 obtain ⟨h1, h2⟩ := mk_nice PFr.void hn
 refine ⟨⟨rfl, rfl, rfl⟩, hsep, by rw [newD_len]; exact hr, h1, Nat.le_refl _, fun _ _ _ => fit_void, fun k f hf => ?_, fun k k0 k1 _ => ?_⟩
 · rw [h2 k] at hf
   cases hf
 · unfold onD
   have key : ∀ j : Nat, j < m → (newD m).T.getD j [] = List.replicate 64 0 := fun j hj => by
    unfold newD zeroT
    rw [List.getD_eq_getElem?_getD, List.getElem?_replicate, if_pos hj]
    rfl
   show takeT ((newD m).T.getD _ []) ((newD m).T.getD _ []) = _
   rw [key _ (by omega), key _ (by omega)]
   exact takeT_zero
end Go.Proofs.YtlcfoeikamkpmaaGreat

namespace Go.Proofs.YtlcfoeikamkpmaaGreat
open Go.RowKit Go.Wh Go.Maps

structure PX (W : World) (c : Nat → Nat) (a b m r : Nat) (w : World) (pb d : Nat) (t : Option Nat) (cf : PCf) (s : PSt) : Prop where
 lg : Lg W c w
 dt : Dt c a b w d t cf s
 po : PoAt c m r w pb d t cf s.H
section
variable {W : World} {c c' : Nat → Nat} {a b m r : Nat} {w w' : World} {pb d : Nat} {t : Option Nat} {cf : PCf} {s : PSt} {X K : Nat → Prop}
theorem PX.keep (h : PX W c a b m r w pb d t cf s) (hf : Dif a b m r) (hs : Stp X K c c' w w') (x0 : ¬ X 0) (xa : ¬ X a) (xb : ¬ X b) (xm : ¬ X m) (xr : ¬ X r) (ka : ¬ K a) (kb : ¬ K b) (kr : ¬ K r) : PX W c' a b m r w' pb d t cf s :=
 ⟨h.lg.step hs x0, h.dt.keep hs xa xb ka kb hf.a0 hf.b0, h.po.keep h.lg.low hs xm xr kr hf.m0 hf.r0⟩
theorem PX.calm (h : PX W c a b m r w pb d t cf s) (hf : Dif a b m r) (hs : Still w w') : PX W c a b m r w' pb d t cf s :=
 ⟨h.lg.calm hs, h.dt.still hs hf.a0 hf.b0, h.po.still h.lg.low hs hf.m0 hf.r0⟩
theorem PX.own (h : PX W c a b m r w pb d t cf s) (hf : Dif a b m r) {g : Nat} (ho : Only (fun x => x = g) w w') (hg : c g = 0) (hw : W.heap.size ≤ g) : PX W c a b m r w' pb d t cf s := by
 have hsc : Stp (fun i => i = 0) (fun _ => False) c c w w' := Stp.owns h.lg.low (ho.mono fun x e => by
  have e' : x = g := e
  show c x = 0
  rw [e']
  exact hg)
 exact ⟨⟨h.lg.still.andThen ho fun x hx e => by have e' : x = g := e; omega, h.lg.hi, hsc.low⟩, h.dt.keep hsc hf.a0 hf.b0 (fun e => e) (fun e => e) hf.a0 hf.b0, h.po.keep h.lg.low hsc hf.m0 hf.r0 (fun e => e) hf.m0 hf.r0⟩
def PxPost (W : World) (c : Nat → Nat) (a b m r : Nat) (w : World) (pb d : Nat) (t : Option Nat) (cf : PCf) (v : Value) (s' : PSt) (e : Ending) (w' : World) : Prop :=
 e = .returned v ∧ ∃ c', Stp (fun i => i = a ∨ i = b ∨ i = m) (fun i => i = a ∨ i = b ∨ i = m ∨ i = r) c c' w w' ∧ PX W c' a b m r w' pb d t cf s'
theorem px_of {v : Value} {s' : PSt} (h : PX W c a b m r w pb d t cf s) (hf : Dif a b m r) {e : Ending} (hp : PoPost c a b m r w pb d t cf v s' e w') : PxPost W c a b m r w pb d t cf v s' e w' := by
 obtain ⟨rfl, c', hs, hd, hp⟩ := hp
 refine ⟨rfl, c', hs.mono (fun _ e => e) fun i e => by rcases e with e | e | e <;> simp [e], h.lg.step hs (fun e => by rcases e with e | e | e; exact hf.a0 e.symm; exact hf.b0 e.symm; exact hf.m0 e.symm), hd, hp⟩
theorem px_set (h : PX W c a b m r w pb d t cf s) (hf : Dif a b m r) (i k : Int) {R : Nat → Prop} {x : Value} {bl : List Int} (hx : Sl w R 1 x bl.length (bc bl)) (hR : ∀ g, R g → c g = 0) (hbb : Byt bl) (y : Int) {E : Int} {s' : PSt} (he : s.set cf i k bl y = (E, s')) :
 Calls Tryz.prog 17 #[.pointer (some ⟨pb, 0, none⟩), .int .i64 i, .int .i64 k, x, .int .i64 y] w (PxPost W c a b m r w pb d t cf (.int .i64 E) s') := by
 refine (pset_any h.dt hf h.po i k hx hR hbb y).mono fun e w' hp => ?_
 rw [he] at hp
 exact px_of h hf hp
theorem px_flush (h : PX W c a b m r w pb d t cf s) (hf : Dif a b m r) (k : Int) {E : Int} {s' : PSt} (he : s.flush cf k = (E, s')) :
 Calls Tryz.prog 21 #[.pointer (some ⟨pb, 0, none⟩), .int .i64 k] w (PxPost W c a b m r w pb d t cf (.int .i64 E) s') := by
 refine (pflush_any h.dt hf h.po k).mono fun e w' hp => ?_
 rw [he] at hp
 exact px_of h hf hp
theorem px_append {t' : Nat} (h : PX W c a b m r w pb d (some t') cf s) (hf : Dif a b m r) {k x : Int} (hm : (nE k x).may = true) (hr : (streamB s.es).length + 25 ≤ cf.n * 63) :
 Calls Tryz.prog 24 #[.pointer (some ⟨t', 0, none⟩), .agg #[.int .i64 k, .int .i64 x, .int .i64 0, .int .i64 0, .int .i64 0, .int .i64 0, .int .i64 0, .int .i64 0, .int .i64 0, .int .i64 0, .slice none 0 0, .slice none 0 0, .slice none 0 0, .slice none 0 0, .slice none 0 0, .slice none 0 0]] w
  (PxPost W c a b m r w pb d (some t') cf (.tuple #[.int .i64 ((s.es.length + 1 : Nat) : Int), .int .i64 0]) { s with es := s.es ++ [nE k x] }) := by
 refine (dt_append h.dt hf.a0 hf.b0 hf.ab hm hr).mono fun e w' hp => ?_
 obtain ⟨rfl, c', hs, hd⟩ := hp
 have hs' : Stp (fun i => i = a ∨ i = b ∨ i = m) (fun i => i = a ∨ i = b ∨ i = m ∨ i = r) c c' w w' := hs.mono (fun i e => .inr (.inl e)) fun i e => .inr (.inl e)
 refine ⟨rfl, c', hs', h.lg.step hs fun e => hf.b0 e.symm, hd, ?_⟩
 exact h.po.keep h.lg.low hs (fun e => hf.bm e.symm) (fun e => hf.br e.symm) (fun e => hf.br e.symm) hf.m0 hf.r0
theorem px_dirty (h : PX W c a b m r w pb d t cf s) (hf : Dif a b m r) (h12 : s.H.l.length ≤ 12) :
 Calls Tryz.prog 19 #[.pointer (some ⟨pb, 0, none⟩)] w (DyPost w s.H) := pdirty_any h.po h.lg.low hf.m0 hf.r0 h12
end
def letS (z : Int) : ByteArray := strOfNums [97 + z % 26]
theorem letR (z : Int) : rowB (letS z) ⟨#[]⟩ ⟨#[]⟩ = rowC (97 + z % 26) [] [] := by
 have h1 : txt (letS z) = [97 + z % 26] := txt_str (l := [97 + z % 26]) (fun x hx => by
  rw [List.mem_singleton.1 hx]
  omega)
 have h2 : (letS z).size = 1 := str_size [97 + z % 26]
 unfold rowB rowC padB padT
 rw [h1, h2]
 rfl
theorem let_ok (z : Int) : (rowC (97 + z % 26) [] []).length = 26 ∧ cellT (rowC (97 + z % 26) [] []) = true ∧ nought (rowC (97 + z % 26) [] []) = false ∧ Byt (rowC (97 + z % 26) [] []) := by
 obtain ⟨n, hn⟩ : ∃ n : Nat, z % 26 = (n : Int) := ⟨(z % 26).toNat, by omega⟩
 rw [hn]
 have hlt : n < 26 := by omega
 refine ⟨rfl, rowC_cell n (List.mem_range.2 hlt), rfl, ?_⟩
 have key : ∀ n ∈ List.range 26, (rowC (97 + (n : Int)) [] []).all (fun x => decide (0 ≤ x) && decide (x ≤ 255)) = true := by decide
 intro x hx
 have := List.all_eq_true.1 (key n (List.mem_range.2 hlt)) x hx
 simp only [Bool.and_eq_true, decide_eq_true_eq] at this
 omega
theorem stream_nE {es : List PE} {n : Nat} (h : (streamB es).length = n * 25) (k x : Int) : (streamB (es ++ [nE k x])).length = (n + 1) * 25 := by
 rw [streamB_append, streamB_one, List.length_append, h, nE_len]
 omega
theorem conv_at {w : World} {g : Nat} {x : Int} (h : w.cell? ⟨g, 0, none⟩ = some (.int .u8 x)) : (convert 22 9 (.slice (some ⟨g, 0, none⟩) 1 1)).run Tryz.prog w = .ok (.string (strOfNums [x])) w :=
 run_convert_bytes_arg _ 22 5 Tryz.underlying22 Tryz.underlying5 g 0 1 1 [x] rfl (fun i hi => by
  have : i = 0 := by omega
  subst this
  rw [Nat.zero_add, h]
  rfl) 9 Tryz.underlying9
end Go.Proofs.YtlcfoeikamkpmaaGreat

namespace Go.Proofs.YtlcfoeikamkpmaaGreat
open Go.Wh

section
variable {cf : PCf} {s : PSt} {C : Int → PPg}
theorem lay_clean (h : Good cf s C) (hcl : ∀ j, dirtyK s.H j = none) {k : Int} (f : PFr) : (s.lay cf k f).2.D = s.D ∧ (s.lay cf k f).2.st = s.st ∧ (s.lay cf k f).2.es = s.es := by
 obtain ⟨-, -, n3⟩ := put_spec h.nice PFr.void k f
 have hno : ¬ ((s.H.put PFr.void k f).1.2.2 = true ∧ (s.H.put PFr.void k f).1.2.1.dirty = true) := by
  rintro ⟨e1, e2⟩
  rcases n3 with ⟨e, -⟩ | ⟨-, -, k0, v0, -, e, hv0, -⟩
  · rw [e] at e1
    cases e1
  · rw [e] at e2
    have := hcl k0
    unfold dirtyK at this
    rw [hv0] at this
    dsimp only at this e2
    rw [if_pos e2] at this
    cases this
 unfold PSt.lay
 rw [if_neg (fun e => hno ⟨e.1, e.2.1⟩), if_neg hno]
 exact ⟨rfl, rfl, rfl⟩
theorem page_clean (h : Good cf s C) (hcl : ∀ j, dirtyK s.H j = none) {k : Int} : (s.page cf k).2.2.D = s.D ∧ (s.page cf k).2.2.st = s.st ∧ (s.page cf k).2.2.es = s.es := by
 show (s.get cf k).2.2.D = s.D ∧ (s.get cf k).2.2.st = s.st ∧ (s.get cf k).2.2.es = s.es
 unfold PSt.get
 split
 · exact ⟨rfl, rfl, rfl⟩
 · cases s.H.look k with
   | some f => exact ⟨rfl, rfl, rfl⟩
   | none =>
    simp only
    split
    · exact ⟨rfl, rfl, rfl⟩
    · split
      · exact ⟨rfl, rfl, rfl⟩
      · exact lay_clean h hcl _
theorem good_hand (h : Good cf s C) (hcl : ∀ j, dirtyK s.H j = none) {n : Nat} (hn : 0 < n) : Good cf { s with H := mkHd PFr.void n } C := by
 obtain ⟨h1, h2⟩ := mk_nice PFr.void hn
 refine ⟨h.well, h.sep, h.room, h1, h.st_le, h.fit, fun k f hf => ?_, fun k k0 k1 _ => ?_⟩
 · have hf' : (mkHd PFr.void n).look k = some f := hf
   rw [h2 k] at hf'
   cases hf'
 · cases hl : s.H.look k with
   | none => exact h.none k k0 k1 hl
   | some f =>
    obtain ⟨-, -, -, hd⟩ := h.key k f hl
    refine hd ?_
    have := hcl k
    unfold dirtyK at this
    rw [hl] at this
    dsimp only at this
    split at this
    · cases this
    · rename_i e
      simpa using e
theorem mk_clean {n : Nat} (hn : 0 < n) : ∀ j, dirtyK (mkHd PFr.void n) j = none := fun j => by
 unfold dirtyK
 rw [(mk_nice PFr.void hn).2 j]
theorem clean_dirty {H : Hd PFr} (hn : H.nice) (hcl : ∀ j, dirtyK H j = none) : dirtyD H = [] := by
 apply List.eq_nil_iff_forall_not_mem.2
 intro x hx
 obtain ⟨f, h1, h2, h3⟩ := (dirty_mem hn).1 hx
 have := dirtyK_some.2 (⟨rfl, f, h1, h2, h3⟩ : x.p = x.p ∧ _)
 rw [hcl] at this
 cases this
end
end Go.Proofs.YtlcfoeikamkpmaaGreat

namespace Go.Proofs.YtlcfoeikamkpmaaGreat
open Go.RowKit Go.Wh Go.Maps

theorem conv_sl {w : World} {Q : Nat → Prop} {v : Value} {n : Nat} {l : List Int} (h : Sl w Q 1 v n (bc l)) : (convert 22 9 v).run Tryz.prog w = .ok (.string (strOfNums l)) w := by
 have hl : l.length = n := by have := h.1; rw [bc_length] at this; omega
 rcases h.2 with ⟨rfl | ⟨a, c, rfl⟩, rfl⟩ | ⟨g, o, c, rfl, -, hc⟩
 rotate_left
 · rw [List.length_eq_zero_iff.1 hl]
   exact convB0 a c
 rotate_left
 · rw [List.length_eq_zero_iff.1 hl]
   exact Lib.run_convert_nil_bytes w 22 9 5 0 Tryz.underlying22 Tryz.underlying5 Tryz.underlying9
 · exact run_convert_bytes_arg _ 22 5 Tryz.underlying22 Tryz.underlying5 g o n c l hl (fun i hi => by
    have hil : i < l.length := by omega
    rw [hc i (.int .u8 l[i]) (bc_get (List.getElem?_eq_getElem hil))]
    simp [List.getD_eq_getElem?_getD, List.getElem?_eq_getElem hil]) 9 Tryz.underlying9
def blankB (l : List Int) : Bool := decide (l.length = 0) || decide (l = List.replicate 26 0)
def BlPost (w : World) (b : Bool) (e : Ending) (w' : World) : Prop := e = .returned (.bool b) ∧ Still w w'
set_option maxHeartbeats 1000000 in
set_option maxRecDepth 100000 in
theorem blank_any {Q : Nat → Prop} (w : World) (v : Value) (n : Nat) (l : List Int) (h : Sl w Q 1 v n (bc l)) (hb : Byt l) (hn : n ≤ 1000) :
 Calls Tryz.prog 55 #[v] w (BlPost w (blankB l)) := by
 have hln : l.length = n := by have := h.1; rw [bc_length] at this; omega
 obtain ⟨a, c, rfl⟩ := h.form
 by_cases h0 : n = 0
 · subst h0
   have F := Lib.hid (fun w' (hs : Still w w') => show BlPost w (blankB l) (.returned (.bool true)) w' from ⟨by unfold blankB; rw [hln]; rfl, hs⟩)
   have hs : Still w w := Still.refl w
   clear h hb hln
   go_enter Tryz.func55, Tryz.ntmps55
   go_upto_region 1 with fail
   go_quiet (fail)
   go_wp2_with fail
   go_ret
   first | exact F.out _ (Still.refl _) | exact F.out _ (still_drew _) | exact F.out _ (Only.drewN (Still.refl _) _)
 · have d0 : ((n : Int) == 0) = false := beq_false_of_ne (by omega)
   have d1 : decide ((n : Int) = 0) = false := decide_eq_false (by omega)
   have d2 : decide (n = 0) = false := decide_eq_false h0
   have d3 : (n == 0) = false := beq_false_of_ne h0
   have HE := Lib.hid (str_eq hb (show Byt (List.replicate 26 0) from fun z hz => by rw [List.eq_of_mem_replicate hz]; decide))
   obtain ⟨q, hq⟩ : ∃ q, ((strOfNums l).toList == (strOfNums (List.replicate 26 0)).toList) = q := ⟨_, rfl⟩
   have F := Lib.hid (fun w' (hs : Still w w') => show BlPost w (blankB l) (.returned (.bool q)) w' from ⟨by unfold blankB; rw [hln, d2, Bool.false_or, ← HE.out, hq], hs⟩)
   have HC := Lib.hid (fun w' (hs : Still w w') => conv_sl (h.still hs))
   clear h hb hln h0 HE
   go_enter Tryz.func55, Tryz.ntmps55
   go_upto_region 1 with fail
   have hcv := HC.out
   have hmk : ∀ w : World, (Instr.makeSlice 22 (.int .i64 26) (.int .i64 26)).run Tryz.prog w = .ok (.slice (some ⟨w.heap.size, 0, none⟩) 26 26) (w.alloc (.cells (bc (List.replicate 26 0)).toArray 5)) := make26
   have hcz : ∀ w : World, (convert 22 9 (.slice (some ⟨w.heap.size, 0, none⟩) 26 26)).run Tryz.prog (w.alloc (.cells (bc (List.replicate 26 0)).toArray 5)) = .ok (.string (strOfNums (List.replicate 26 0))) (w.alloc (.cells (bc (List.replicate 26 0)).toArray 5)) := fun w => conv_sl (Q := fun _ => True) (l := List.replicate 26 0) (by
    have h := cellsAt_new w (bc (List.replicate 26 0)) 5
    exact ⟨by rw [bc_length]; rfl, .inr ⟨w.heap.size, 0, 26, rfl, fun _ => ⟨trivial, h.lt⟩, fun j u hj => by rw [Nat.zero_add]; exact (h.cell j).trans hj⟩⟩)
   have hcy : ∀ w : World, (convert 22 9 (.slice (some ⟨w.heap.size, 0, none⟩) 26 26)).run Tryz.prog (w.alloc (.cells (bc (List.replicate 26 0)).toArray 5)).drew = .ok (.string (strOfNums (List.replicate 26 0))) (w.alloc (.cells (bc (List.replicate 26 0)).toArray 5)).drew := fun w => conv_sl (Q := fun _ => True) (l := List.replicate 26 0) (by
    have h := cellsAt_new w (bc (List.replicate 26 0)) 5
    exact ⟨by rw [bc_length]; rfl, .inr ⟨w.heap.size, 0, 26, rfl, fun _ => ⟨trivial, h.lt⟩, fun j u hj => by rw [Nat.zero_add]; exact (h.cell j).trans hj⟩⟩)
   have hcv0 := hcv w (Still.refl w)
   have hcv1 := hcv w.drew (still_drew w)
   have hcv2 : ∀ o, (convert 22 9 (.slice a n c)).run Tryz.prog (w.drew.alloc o) = .ok (.string (strOfNums l)) (w.drew.alloc o) := fun o => hcv _ ((still_drew w).alloc o)
   have hcv3 : ∀ o, (convert 22 9 (.slice a n c)).run Tryz.prog (w.alloc o) = .ok (.string (strOfNums l)) (w.alloc o) := fun o => hcv _ ((Still.refl w).alloc o)
   have hcv4 : ∀ o, (convert 22 9 (.slice a n c)).run Tryz.prog (w.alloc o).drew = .ok (.string (strOfNums l)) (w.alloc o).drew := fun o => hcv _ ((Still.refl w).alloc o).drew
   generalize (bc (List.replicate 26 0)).toArray = Z26 at *
   generalize strOfNums (List.replicate 26 0) = ZS at *
   clear hcv HC
   go_region
   go_wp2_with fail
   go_ret
   exact F.out _ ((Still.refl w).alloc _).drew
theorem blank_nil (w : World) (a : Option Addr) (c : Nat) : Calls Tryz.prog 55 #[.slice a 0 c] w (fun e w' => e = .returned (.bool true) ∧ ∃ m, w' = w.drewN m) := by
 go_enter Tryz.func55, Tryz.ntmps55
 go_upto_region 1 with fail
 go_quiet (fail)
 go_wp2_with fail
 go_ret
 exact ⟨rfl, _, rfl⟩
end Go.Proofs.YtlcfoeikamkpmaaGreat

namespace Go.Proofs.YtlcfoeikamkpmaaGreat
open Go.RowKit Go.Wh Go.Maps

theorem stl_trans {a b c : World} (h : Still a b) (k : Still b c) : Still a c := Only.trans h k
set_option maxHeartbeats 4000000 in
set_option maxRecDepth 100000 in
theorem samepage_any {Q R : Nat → Prop} (w : World) (u0 u1 u2 u3 v0 v1 v2 v3 : Value) (ls : List (List Int)) (z : Int) (h1 : PgIs w Q [u0, u1, u2, u3] ls) (h2 : PgIs w R [v0, v1, v2, v3] ls) (hok : ∀ l ∈ ls, l = [] ∨ (l.length = 26 ∧ blankB l = false ∧ Byt l)) :
 Calls Tryz.prog 20 #[.agg #[u0, u1, u2, u3, .int .i64 z], .agg #[v0, v1, v2, v3, .int .i64 z]] w (BlPost w true) := by
 have H := Lib.hid (And.intro h1 (And.intro h2 hok))
 have HC1 := Lib.hid (fun tt => cellsAt_new w [u0, u1, u2, u3, .int .i64 z] tt)
 have HC2 := Lib.hid (fun w' tt => cellsAt_new w' [v0, v1, v2, v3, .int .i64 z] tt)
 clear h1 h2 hok
 go_enter Tryz.func20, Tryz.ntmps20
 go_upto_region 1 with fail
 have hs1 : Still w (w.alloc (.cells #[u0, u1, u2, u3, .int .i64 z] 36)) := (Still.refl w).alloc _
 have hc1 := HC1.out 36
 change cellsAt (w.alloc (.cells #[u0, u1, u2, u3, .int .i64 z] 36)) w.heap.size _ at hc1
 have hz1 : (w.alloc (.cells #[u0, u1, u2, u3, .int .i64 z] 36)).heap.size = w.heap.size + 1 := by simp
 generalize (w.alloc (.cells #[u0, u1, u2, u3, .int .i64 z] 36)) = w1 at *
 have hs2 : Still w1 (w1.alloc (.cells #[v0, v1, v2, v3, .int .i64 z] 36)) := (Still.refl w1).alloc _
 have hc2 := HC2.out w1 36
 change cellsAt (w1.alloc (.cells #[v0, v1, v2, v3, .int .i64 z] 36)) w1.heap.size _ at hc2
 rw [hz1] at hc2
 generalize (w1.alloc (.cells #[v0, v1, v2, v3, .int .i64 z] 36)) = w2 at *
 obtain ⟨b2, hb2⟩ : ∃ b, w.heap.size = b := ⟨_, rfl⟩
 obtain ⟨b3, hb3⟩ : ∃ b, w.heap.size + 1 = b := ⟨_, rfl⟩
 rw [hb3] at hc2
 rw [hb2] at hc1
 rw [hb3, hb2]
 have H2 := Lib.hid (And.intro (hc1.only hs2 fun e => e) (And.intro hc2 (hs1.trans hs2)))
 clear hs1 hs2 hc1 hc2 hz1 hb2 hb3 HC1 HC2
 go_wp2_with fail
 go_loopw [5] (fun s wr => ∃ i : Nat, s = .int .i64 i ∧ i ≤ 4 ∧ Still w2 wr) (fun s _ => 4 - (intOf s).toNat)
 case atStart => exact ⟨0, rfl, Nat.zero_le _, Still.refl _⟩
 obtain ⟨i, rfl, hi4, hst⟩ := hrel
 have HST := Lib.hid hst
 have HR := Lib.hid (And.intro (H2.out.1.only hst fun e => e) (H2.out.2.1.only hst fun e => e))
 clear hst
 by_cases hi : i < 4
 rotate_left
 · have d1 : decide ((i : Int) < 4) = false := decide_eq_false (by omega)
   have d2 : decide (i < 4) = false := decide_eq_false hi
   have c1 : wr.cell? ⟨b2, 4, none⟩ = some (.int .i64 z) := HR.out.1.cell 4
   have c2 : wr.cell? ⟨b3, 4, none⟩ = some (.int .i64 z) := HR.out.2.cell 4
   have F := Lib.hid (show BlPost w true (.returned (.bool true)) wr from ⟨rfl, H2.out.2.2.trans HST.out⟩)
   clear hi hi4
   go_wp2_with fail
   go_ret
   exact F.out
 have d1 : decide ((i : Int) < 4) = true := decide_eq_true (by omega)
 have d2 : decide (i < 4) = true := decide_eq_true hi
 have i0 : (0 : Int) ≤ (i : Int) := by omega
 have i1 : (i : Int) < 4 := by omega
 have ui : IntKind.i64.wrap ((i : Int) + 1) = (i : Int) + 1 := IntWalk.i64_in _ (by omega)
 obtain ⟨u, hu⟩ : ∃ u, [u0, u1, u2, u3][i]? = some u := ⟨_, List.getElem?_eq_getElem (by simpa using hi)⟩
 obtain ⟨v, hv⟩ : ∃ u, [v0, v1, v2, v3][i]? = some u := ⟨_, List.getElem?_eq_getElem (by simpa using hi)⟩
 obtain ⟨l, hl⟩ : ∃ l, ls[i]? = some l := ⟨_, List.getElem?_eq_getElem (by have := H.out.1.m; omega)⟩
 have hlk := H.out.2.2 l (List.mem_of_getElem? hl)
 have hsu := H.out.1.at_ i u l hu hl
 have hsv := H.out.2.1.at_ i v l hv hl
 have hp : ∀ {x : Value} {p q r s t : Value}, [p, q, r, s][i]? = some x → [p, q, r, s, t][i]? = some x := fun {x p q r s t} e => by
  rcases (show i = 0 ∨ i = 1 ∨ i = 2 ∨ i = 3 from by omega) with rfl | rfl | rfl | rfl <;> exact e
 have SS := Lib.hid (fun w' (hs : Still wr w') => show w'.cell? ⟨b2, i, none⟩ = some u ∧ w'.cell? ⟨b3, i, none⟩ = some v from
  ⟨Still.cell hs ((HR.out.1.cell i).trans (hp hu)), Still.cell hs ((HR.out.2.cell i).trans (hp hv))⟩)
 have cu : wr.cell? ⟨b2, i, none⟩ = some u := (SS.out wr (Still.refl _)).1
 have cv : wr.cell? ⟨b3, i, none⟩ = some v := (SS.out wr (Still.refl _)).2
 have HN := Lib.hid (fun w' (hs : Still wr w') => show (∃ k : Nat, Value.int .i64 ((i : Int) + 1) = .int .i64 k ∧ k ≤ 4 ∧ Still w2 w') from ⟨i + 1, rfl, by omega, HST.out.trans hs⟩)
 rcases hlk with rfl | hlk
 · obtain ⟨ua, uc, rfl⟩ := hsu.form
   obtain ⟨va, vc, rfl⟩ := hsv.form
   have cu0 : wr.cell? ⟨b2, i, none⟩ = some (.slice ua 0 uc) := cu
   have cv0 : wr.cell? ⟨b3, i, none⟩ = some (.slice va 0 vc) := cv
   clear hu hv hl hsu hsv hp hi hi4 HR SS cu cv
   go_upto_region 4 with fail
   go_quiet (first
    | (go_at_call 55; (with_reducible refine Calls.quiet_of (blank_nil _ ua uc)))
    | (go_at_call 55; (with_reducible refine Calls.quiet_of (blank_nil _ va vc))))
   go_wp2_with fail
   go_roundw
   case rel => exact HN.out _ (Only.drewN (Still.refl wr) _)
   case measure => simp [intOf]; omega
 have HU := Lib.hid (fun w' (hs : Still wr w') => blank_any w' u l.length l (((hsu.still H2.out.2.2).still HST.out).still hs) hlk.2.2 (by omega))
 have HV := Lib.hid (fun w' (hs : Still wr w') => blank_any w' v l.length l (((hsv.still H2.out.2.2).still HST.out).still hs) hlk.2.2 (by omega))
 have HQU := Lib.hid (fun w' (hs : Still wr w') => conv_sl (((hsu.still H2.out.2.2).still HST.out).still hs))
 have HQV := Lib.hid (fun w' (hs : Still wr w') => conv_sl (((hsv.still H2.out.2.2).still HST.out).still hs))
 rw [hlk.2.1] at HU HV
 obtain ⟨ua, uc, rfl⟩ := hsu.form
 obtain ⟨va, vc, rfl⟩ := hsv.form
 obtain ⟨n, hn⟩ : ∃ n, l.length = n := ⟨_, rfl⟩
 rw [hn] at HU HV HQU HQV SS cu cv
 generalize strOfNums l = ZS at *
 have SS2 := Lib.hid (fun w' (hs : Still wr w') => show (w'.cell? ⟨b2, i, none⟩ = some (.slice ua n uc) ∧ w'.cell? ⟨b3, i, none⟩ = some (.slice va n vc)) ∧ (convert 22 9 (.slice ua n uc)).run Tryz.prog w' = .ok (.string ZS) w' ∧ (convert 22 9 (.slice va n vc)).run Tryz.prog w' = .ok (.string ZS) w' from ⟨SS.out w' hs, HQU.out w' hs, HQV.out w' hs⟩)
 clear hu hv hl hlk hsu hsv hp hi hi4 HR hn
 go_upto_region 4 with fail
 go_region_held3 (fun w' => (w'.cell? ⟨b2, i, none⟩ = some (.slice ua n uc) ∧ w'.cell? ⟨b3, i, none⟩ = some (.slice va n vc)) ∧ (convert 22 9 (.slice ua n uc)).run Tryz.prog w' = .ok (.string ZS) w' ∧ (convert 22 9 (.slice va n vc)).run Tryz.prog w' = .ok (.string ZS) w') (first | exact SS2.out _ (still_drew _) | exact SS2.out _ (by assumption)) (first
  | (go_at_call 55; (with_reducible refine (HU.out _ (by first | exact still_drew _ | assumption)).mono ?_); rintro e w5 ⟨rfl, hs5⟩; have t5 : Still wr w5 := stl_trans (by first | exact still_drew _ | assumption) hs5; clear hs5)
  | (go_at_call 55; (with_reducible refine (HV.out _ (by first | exact still_drew _ | assumption)).mono ?_); rintro e w6 ⟨rfl, hs6⟩; have t6 : Still wr w6 := stl_trans (by first | exact still_drew _ | assumption) hs6; clear hs6))
 go_wp2_with fail
 go_roundw
 case rel => exact HN.out _ t5
 case measure => simp [intOf]; omega
end Go.Proofs.YtlcfoeikamkpmaaGreat

namespace Go.Proofs.YtlcfoeikamkpmaaGreat
open Go.Wh

theorem fit_blank {p : PPg} (h : p.fit) : ∀ l ∈ p.c, l = [] ∨ (l.length = 26 ∧ blankB l = false ∧ Byt l) := by
 intro l hl
 rcases h.cell l hl with e | ⟨-, e⟩
 · exact .inl e
 · rcases h.ok.each l hl with e2 | e2
   · exact .inl e2
   · refine .inr ⟨e2, ?_, h.ok.byt l hl⟩
     unfold blankB
     rw [e2]
     simp only [Bool.or_eq_false_iff, decide_eq_false_iff_not]
     refine ⟨by omega, fun e3 => ?_⟩
     rw [e3, nought_replicate] at e
     cases e
structure ReaS (cf : PCf) (s : PSt) (C : Int → PPg) (n i : Nat) : Prop where
 good : Good cf s C
 l12 : s.H.l.length ≤ 12
 es : s.es.length = n
 str : (streamB s.es).length = n * 25
 lsn : ∀ k, (C k).lsn ≤ i
section
variable {cf : PCf} {s : PSt} {C : Int → PPg} {n i : Nat}
theorem rea_app (h : ReaS cf s C n i) (k x : Int) : ReaS cf { s with es := s.es ++ [nE k x] } C (n + 1) i :=
 ⟨append_well h.good _, h.l12, by show (s.es ++ [nE k x]).length = _; rw [List.length_append, h.es]; rfl, stream_nE h.str k x, h.lsn⟩
theorem rea_set (h : ReaS cf s C n i) {k : Int} (h0 : 0 ≤ k) (h1 : k < cf.pages) {j : Int} (j0 : 0 ≤ j) (j4 : j < 4) (z : Int) (hi : i < 1000) :
 ∃ s', s.set cf k j (rowC (97 + z % 26) [] []) ((i : Int) + 1) = (0, s') ∧ ReaS cf s' (putC C k j.toNat (rowC (97 + z % 26) [] []) ((i : Int) + 1)) n (i + 1) ∧ (n = i + 1 → Last s') := by
 have hz : lsnMay ((i : Int) + 1) = true := by
  unfold lsnMay
  simp only [Bool.and_eq_true, decide_eq_true_eq]
  omega
 obtain ⟨l1, l2, l3, l4⟩ := let_ok z
 obtain ⟨s', e, g1, g2, g3, g4, -, -, -, g8⟩ := set_well h.good h0 h1 j0 j4 (b := rowC (97 + z % 26) [] []) (z := (i : Int) + 1) (.inr ⟨l1, l2, l3, l4⟩) hz (by have := h.lsn k; omega)
 refine ⟨s', e, ⟨g1, by rw [g3]; exact h.l12, by rw [g2, h.es], by rw [g2, h.str], fun q => ?_⟩, fun hn => g8 (by rw [h.es, hn]; rfl)⟩
 unfold putC
 split
 · show (i : Int) + 1 ≤ ((i + 1 : Nat) : Int)
   omega
 · have := h.lsn q
   omega
theorem rea_flush (h : ReaS cf s C n i) {k : Int} (h0 : 0 ≤ k) (h1 : k < cf.pages) : ∃ s', s.flush cf k = (0, s') ∧ ReaS cf s' C n i ∧ dirtyK s'.H k = none ∧ (∀ j, j ≠ k → dirtyK s'.H j = dirtyK s.H j) ∧ (cf.tr = true → Last s → Last s') := by
 obtain ⟨s', e, g1, g2, g3, g4, g5, g6, g7⟩ := flush_well h.good h0 h1
 exact ⟨s', e, ⟨g1, by rw [g3]; exact h.l12, by rw [g2, h.es], by rw [g2, h.str], h.lsn⟩, g5, g6, g7⟩
theorem all_clean (h : Good cf s C) (hc : ∀ k : Int, 0 ≤ k → k < cf.pages → dirtyK s.H k = none) : ∀ j, dirtyK s.H j = none := fun j => by
 cases e : dirtyK s.H j with
 | none => rfl
 | some x =>
  obtain ⟨-, f, h1, -, -⟩ := dirtyK_some.1 e
  obtain ⟨a, b, -, -⟩ := h.key j f h1
  rw [hc j a b] at e
  cases e
theorem last_clean (hL : Last s) (hc : ∀ j, dirtyK s.H j = none) : s.st = s.es.length := by
 rcases hL with e | ⟨k, f, h1, h2, -⟩
 · exact e
 · have := dirtyK_some.2 (⟨rfl, f, h1, h2, rfl⟩ : (⟨k, f.rec_⟩ : Drt).p = k ∧ _)
   rw [hc] at this
   cases this
theorem page_clean_k (h : Good cf s C) (hcl : ∀ j, dirtyK s.H j = none) {k : Int} (h0 : 0 ≤ k) (h1 : k < cf.pages) :
 ∃ H', s.page cf k = (0, C k, { s with H := H' }) ∧ Good cf { s with H := H' } C ∧ (∀ j, dirtyK H' j = none) ∧ H'.l.length = s.H.l.length := by
 obtain ⟨s', e, g1, g2, g3, -, g5, -⟩ := page_well h h0 h1
 obtain ⟨e1, e2, e3⟩ := page_clean h hcl (k := k)
 rw [e] at e1 e2 e3
 dsimp only at e1 e2 e3
 obtain ⟨D', es', st', H'⟩ := s'
 dsimp only at e1 e2 e3
 subst e1 e2 e3
 refine ⟨H', e, g1, fun j => ?_, g3⟩
 rcases g5 j with e | e
 · rw [hcl] at e
   exact e
 · exact e
end
end Go.Proofs.YtlcfoeikamkpmaaGreat

namespace Go.Proofs.YtlcfoeikamkpmaaGreat
open Go.RowKit Go.Wh Go.Maps

section
variable {W : World} {c c' : Nat → Nat} {a b m r m2 r2 : Nat} {w w' : World} {pb qb d : Nat} {t : Option Nat} {cf : PCf} {s : PSt} {X K : Nat → Prop}
def PgPost (W : World) (c : Nat → Nat) (a b m r : Nat) (w : World) (pb d : Nat) (t : Option Nat) (cf : PCf) (E : Int) (p : PPg) (s' : PSt) (e : Ending) (w' : World) : Prop :=
 ∃ v0 v1 v2 v3 c', e = .returned (.tuple #[.agg #[v0, v1, v2, v3, .int .i64 p.lsn], .int .i64 E]) ∧ Stp (fun i => i = a ∨ i = b ∨ i = m) (fun i => i = a ∨ i = b ∨ i = m ∨ i = r) c c' w w' ∧ PX W c' a b m r w' pb d t cf s' ∧ PgIs w' (fun g => c' g = 0 ∧ w.heap.size ≤ g) [v0, v1, v2, v3] p.c
theorem px_page (h : PX W c a b m r w pb d t cf s) (hf : Dif a b m r) (k : Int) {E : Int} {p : PPg} {s' : PSt} (he : s.page cf k = (E, p, s')) :
 Calls Tryz.prog 16 #[.pointer (some ⟨pb, 0, none⟩), .int .i64 k] w (PgPost W c a b m r w pb d t cf E p s') := by
 refine (ppage_any h.dt hf h.po k).mono fun e w' hp => ?_
 rw [he] at hp
 obtain ⟨v0, v1, v2, v3, rfl, c', hs, hd, hp, hpg⟩ := hp
 refine ⟨v0, v1, v2, v3, c', rfl, hs.mono (fun _ e => e) (fun i e => by rcases e with e | e | e <;> simp [e]), ⟨h.lg.step hs (fun e => by rcases e with e | e | e; exact hf.a0 e.symm; exact hf.b0 e.symm; exact hf.m0 e.symm), hd, hp⟩, hpg⟩
theorem PX.other (h : PX W c a b m r w pb d t cf s) {H : Hd PFr} (hq : PoAt c m2 r2 w qb d t cf H) : PX W c a b m2 r2 w qb d t cf { s with H := H } := ⟨h.lg, h.dt.hand H, hq⟩
theorem po_other {H : Hd PFr} (h : PoAt c m2 r2 w qb d t cf H) (hl : Low c w) (hs : Stp (fun i => i = a ∨ i = b ∨ i = m) (fun i => i = a ∨ i = b ∨ i = m ∨ i = r) c c' w w') (hf : Dif a b m2 r2) (e1 : m2 ≠ m) (e2 : r2 ≠ m) (e3 : r2 ≠ r) : PoAt c' m2 r2 w' qb d t cf H :=
 h.keep hl hs (fun e => by rcases e with e | e | e; exact hf.am e.symm; exact hf.bm e.symm; exact e1 e) (fun e => by rcases e with e | e | e; exact hf.ar e.symm; exact hf.br e.symm; exact e2 e)
  (fun e => by rcases e with e | e | e | e; exact hf.ar e.symm; exact hf.br e.symm; exact e2 e; exact e3 e) hf.m0 hf.r0
theorem px_new (h : Lg W c w) (hd : Dt c a b w d t cf s) (hf : Dif a b m r) (k : Int) (n : Nat) (hn : min (max k 1) 64 = (n : Int)) {A B : Int} (hA : (cf.first : Int) = A) (hB : (cf.pages : Int) = B) :
 Calls Tryz.prog 15 #[.pointer (some ⟨d, 0, none⟩), ptrV t, .int .i64 A, .int .i64 B, .int .i64 k] w (fun e w' => ∃ pb c', e = .returned (.pointer (some ⟨pb, 0, none⟩)) ∧ Stp (fun _ => False) (fun i => i = m) c c' w w' ∧ PX W c' a b m r w' pb d t cf { s with H := mkHd PFr.void n }) := by
 refine (pnew_any (m := m) (r := r) h.low d t cf k n hn hA hB).mono ?_
 rintro e w' ⟨pb, c', rfl, hs, hp⟩
 exact ⟨pb, c', rfl, hs, h.step hs fun e => e, (hd.keep hs (fun e => e) (fun e => e) (fun e => hf.am e) (fun e => hf.bm e) hf.a0 hf.b0).hand _, hp⟩
end
theorem dif2 : Dif 1 2 5 6 := ⟨by decide, by decide, by decide, by decide, by decide, by decide, by decide, by decide, by decide, by decide⟩
end Go.Proofs.YtlcfoeikamkpmaaGreat

namespace Go.Proofs.YtlcfoeikamkpmaaGreat
open Go.RowKit Go.Wh Go.Maps

def cfD : PCf := ⟨0, 8, 20, 20, true⟩
def ReaRel (W : World) (d t pb i : Nat) (wr : World) : Prop := ∃ c s C, PX W c 1 2 3 4 wr pb d (some t) cfD s ∧ ReaS cfD s C i i ∧ Last s
def RebRel (W : World) (d t pb m k : Nat) (wr : World) : Prop := ∃ c s C, PX W c 1 2 3 4 wr pb d (some t) cfD s ∧ ReaS cfD s C m m ∧ Last s ∧ ∀ j : Int, 0 ≤ j → j < k → dirtyK s.H j = none
def RecRel2 (W : World) (d t pb qb : Nat) (wr : World) : Prop := ∃ c s C H, PX W c 1 2 3 4 wr pb d (some t) cfD s ∧ PoAt c 5 6 wr qb d (some t) cfD H ∧ Good cfD s C ∧ Good cfD { s with H := H } C ∧ (∀ j, dirtyK s.H j = none) ∧ (∀ j, dirtyK H j = none) ∧ s.H.l.length ≤ 12 ∧ H.l.length ≤ 12 ∧ s.st = s.es.length
theorem one_page {w : World} {Q : Nat → Prop} {v0 v1 v2 v3 : Value} {l : List (List Int)} (h : PgIs w Q [v0, v1, v2, v3] l) (z : Int) : (#[v0, v1, v2, v3, .int .i64 z] : Array Value).toList.all (·.oneCell') = true := by
 have := pg_one h
 rw [List.all_eq_true]
 intro y hy
 simp only [List.mem_cons, List.not_mem_nil, or_false] at hy
 rcases hy with rfl | rfl | rfl | rfl | rfl
 · exact this _ (by simp)
 · exact this _ (by simp)
 · exact this _ (by simp)
 · exact this _ (by simp)
 · rfl
set_option maxHeartbeats 16000000 in
set_option maxRecDepth 100000 in
theorem reads_walk (W : World) (Q : Nat → Prop) (xa : Option Addr) (m xc : Nat) (L : List Int) (fz : Int) (hl : L.length = m ∧ (0 < m → Sl W Q 1 (.slice xa m xc) m (bc L)) ∧ Byt L) (f0 : 0 ≤ fz) :
 Calls Tryz.prog 7 #[.slice xa m xc, .int .u8 fz] W (BTrue W) := by
 have HBG := Lib.hid (begun_any W)
 have HL := Lib.hid hl
 clear hl
 by_cases hbad : 12 < m
 · have b1 : decide ((12 : Int) < (m : Int)) = true := decide_eq_true (by omega)
   have b2 : decide (12 < m) = true := decide_eq_true hbad
   clear hbad
   go_enter Tryz.func7, Tryz.ntmps7
   go_wp2_with fail
   refine HBG.out.mono ?_
   rintro en w1 ⟨rfl, hs1⟩
   have F := Lib.hid (show BTrue W (.returned (.bool true)) w1 from ⟨rfl, hs1⟩)
   clear hs1 HBG
   go_wp2_with fail
   go_ret
   exact F.out
 have b1 : decide ((12 : Int) < (m : Int)) = false := decide_eq_false (by omega)
 have b2 : decide (12 < m) = false := decide_eq_false hbad
 have HM := Lib.hid (show m ≤ 12 from by omega)
 clear hbad
 obtain ⟨f4, hf4⟩ : ∃ k : Nat, fz % 4 = (k : Int) := ⟨(fz % 4).toNat, by omega⟩
 obtain ⟨f3, hf3⟩ : ∃ k : Nat, fz % 3 = (k : Int) := ⟨(fz % 3).toNat, by omega⟩
 have HFF := Lib.hid (show f4 < 4 ∧ f3 < 3 from by omega)
 have z4 : fz.tmod 4 = (f4 : Int) := by rw [Int.tmod_eq_emod_of_nonneg f0]; exact hf4
 have z3 : fz.tmod 3 = (f3 : Int) := by rw [Int.tmod_eq_emod_of_nonneg f0]; exact hf3
 have y4 : IntKind.i64.wrap (f4 : Int) = (f4 : Int) := IntWalk.i64_in _ (by have := HFF.out; omega)
 have y3 : IntKind.i64.wrap (f3 : Int) = (f3 : Int) := IntWalk.i64_in _ (by have := HFF.out; omega)
 have x4 : IntKind.i64.wrap (1 + (f4 : Int)) = 1 + (f4 : Int) := IntWalk.i64_in _ (by have := HFF.out; omega)
 have x3 : IntKind.i64.wrap (1 + (f3 : Int)) = 1 + (f3 : Int) := IntWalk.i64_in _ (by have := HFF.out; omega)
 clear hf4 hf3 f0
 go_enter Tryz.func7, Tryz.ntmps7
 go_wp2_with fail
 refine HBG.out.mono ?_
 rintro en w1 ⟨rfl, hs1⟩
 have L1 := Lg.start hs1
 have HN := Lib.hid (dnew_any L1.low 1 (fun _ e => by cases e) 40 (by decide) rfl)
 have H1 := Lib.hid L1
 clear hs1 L1 HBG
 go_wp2_with fail
 refine HN.out.mono ?_
 rintro en w2 ⟨d, c2, rfl, hs2, hd2⟩
 have L2 := H1.out.step hs2 fun e => e
 have n2 := Lg.none (j := 2) hs2 H1.out.low (fun _ e => by cases e) (fun e => by cases e) (by decide)
 have HO := Lib.hid (dopen_new (b := 2) (m := 40) (at_ := 20) (n := 20) L2.low hd2 (by decide) (by decide) n2 (by decide) (by decide) (by decide) rfl rfl)
 have H2 := Lib.hid L2
 clear hs2 hd2 L2 n2 HN
 go_wp2_with fail
 refine HO.out.mono ?_
 rintro en w3 ⟨t, la, lc, c3, rfl, hs3, hd3, ht3⟩
 have L3 := H2.out.step hs3 fun e => by cases e
 have hD3 : Dt c3 1 2 w3 d (some t) cfD ⟨newD 40, [], 0, mkHd PFr.void 1⟩ := ⟨L3.low, hd3, fun t' e => (by cases e; exact ht3), rfl, newD_fine 40, newD_byt 40, by decide, fun _ => ⟨by decide, by decide⟩, by decide⟩
 have HNP := Lib.hid (px_new (m := 3) (r := 4) L3 hD3 dif1 (1 + (f4 : Int)) (1 + f4) (by have := HFF.out; omega) rfl rfl)
 clear hs3 hd3 ht3 L3 hD3 HO H1 H2
 go_wp2_with fail
 refine HNP.out.mono ?_
 rintro en w4 ⟨pb, c4, rfl, -, hx4⟩
 have HREL := Lib.hid (show ReaRel W d t pb 0 w4 from ⟨c4, _, _, hx4, ⟨new_well (by decide) (by decide) (by omega), by show (List.replicate _ _).length ≤ 12; rw [List.length_replicate]; have := HFF.out; omega, rfl, rfl, fun _ => Int.le_refl 0⟩, .inl rfl⟩)
 clear hx4 HNP
 go_wp2_with fail
 go_loopw [10] (fun s10 wr => ∃ i : Nat, s10 = .int .i64 i ∧ i ≤ m ∧ ReaRel W d t pb i wr) (fun s10 _ => m - (intOf s10).toNat)
 case atStart => exact ⟨0, rfl, Nat.zero_le _, HREL.out⟩
 clear HREL
 obtain ⟨i, rfl, him, hrel⟩ := hrel
 by_cases hi : i < m
 · have d1 : decide ((i : Int) < (m : Int)) = true := decide_eq_true (by omega)
   have d2 : decide (i < m) = true := decide_eq_true hi
   have HI := Lib.hid (And.intro hi HM.out)
   obtain ⟨c, s, C, hx, hrs, hL⟩ := hrel
   obtain ⟨z, hz⟩ : ∃ z, L[i]? = some z := ⟨_, List.getElem?_eq_getElem (by have := HL.out.1; omega)⟩
   have hzb := HL.out.2.2 z (List.mem_of_getElem? hz)
   obtain ⟨zn, rfl⟩ : ∃ zn : Nat, z = (zn : Int) := ⟨z.toNat, by omega⟩
   obtain ⟨g, o, cc, he, -, -, hcs⟩ := (HL.out.2.1 (by omega)).pos (by omega)
   cases he
   have hcw : W.cell? ⟨g, o + i, none⟩ = some (.int .u8 zn) := hcs i _ (bc_get hz)
   have HCW := Lib.hid (fun w' (hs : Still W w') => Still.cell hs hcw)
   have hc1 := HCW.out wr hx.lg.still
   have l0 : (0 : Int) ≤ (i : Int) := by omega
   have l1 : (i : Int) < (m : Int) := by omega
   have HAP := Lib.hid (px_append hx dif1 (k := 5) (x := 0) (nE_may (k := 5) (t := 0) (by omega) (by omega)) (by rw [hrs.str]; show i * 25 + 25 ≤ 20 * 63; have := HI.out; omega))
   have HRS := Lib.hid hrs
   clear hx hrs hL hz hzb hcs hcw him hi
   obtain ⟨kn, hkn⟩ : ∃ k : Nat, (zn : Int).tmod 8 = (k : Int) := ⟨((zn : Int).tmod 8).toNat, by rw [Int.tmod_eq_emod_of_nonneg (by omega)]; omega⟩
   have HKN := Lib.hid (show kn < 8 from by rw [Int.tmod_eq_emod_of_nonneg (by omega)] at hkn; omega)
   have w3 : IntKind.i64.wrap (kn : Int) = (kn : Int) := IntWalk.i64_in _ (by have := HKN.out; omega)
   go_wp2_with fail
   refine HAP.out.mono ?_
   rintro en wa ⟨rfl, ca, hsa, hxa⟩
   have hra := rea_app HRS.out 5 0
   have hca := HCW.out wa hxa.lg.still
   have HA := Lib.hid (And.intro hxa hra)
   clear hsa hxa hra HAP HRS hc1
   have HR := Lib.hid (fun w' => row_any w' (letS zn) ⟨#[]⟩ ⟨#[]⟩ 1 0 0 (str_size [97 + (zn : Int) % 26]) rfl rfl (by decide) (by decide) (by decide) (by decide))
   have q1 : (convert 22 9 (.slice (some ⟨wa.heap.size, 0, none⟩) 1 1)).run Tryz.prog (wa.alloc (.cells #[.int .u8 (97 + (zn : Int) % 26)] 5)) = .ok (.string (letS zn)) (wa.alloc (.cells #[.int .u8 (97 + (zn : Int) % 26)] 5)) :=
    conv_at ((cellsAt_new wa [.int .u8 (97 + (zn : Int) % 26)] 5).cell 0)
   go_wp2_with fail
   refine (HR.out _).mono ?_
   rintro en wb ⟨v, rfl, hv, hbl, hg⟩
   have hsb : Still wa wb := ((Still.refl wa).alloc _).trans (Still.of hbl)
   have hz1 : (wa.alloc (.cells #[.int .u8 (97 + (zn : Int) % 26)] 5)).heap.size = wa.heap.size + 1 := by simp
   have hsl : Sl wb (fun g => ca g = 0) 1 v 26 (bc (rowC (97 + (zn : Int) % 26) [] [])) := by
    rw [← letR]
    exact row_slow HA.out.1.lg.low hv fun g e => ⟨by have := hg g e; omega, (hg g e).2⟩
   have hcb := HCW.out wb (HA.out.1.lg.still.trans hsb)
   obtain ⟨va, vc, rfl⟩ := hv.form'
   have hxb := HA.out.1.calm dif1 hsb
   have u1 : IntKind.i64.wrap ((i : Int) + 1) = (i : Int) + 1 := IntWalk.i64_in _ (by have := HI.out; omega)
   have HST := Lib.hid (fun wb' (hs' : Still wb wb') j (j0 : 0 ≤ j) (j4 : j < 4) => show Calls Tryz.prog 17 #[.pointer (some ⟨pb, 0, none⟩), .int .i64 kn, .int .i64 j, .slice va 26 vc, .int .i64 ((i : Int) + 1)] wb' (fun e w' => e = .returned (.int .i64 0) ∧ ReaRel W d t pb (i + 1) w') from by
    obtain ⟨s', e1, e2, e3⟩ := rea_set HA.out.2 (k := (kn : Int)) (by omega) (by show (kn : Int) < ((8 : Nat) : Int); have := HKN.out; omega) j0 j4 zn (by have := HI.out; omega)
    refine (px_set (hxb.calm dif1 hs') dif1 (kn : Int) j (bl := rowC (97 + (zn : Int) % 26) [] []) (hsl.still hs') (fun g e => e) (let_ok zn).2.2.2 ((i : Int) + 1) e1).mono ?_
    rintro en w' ⟨rfl, c', hs, hx⟩
    exact ⟨rfl, c', s', _, hx, e2, e3 rfl⟩)
   have HSC := Lib.hid (fun w' (hs : Still wb w') => Still.cell hs hcb)
   have k0 : (0 : Int) ≤ (kn : Int) := by omega
   have HJ := Lib.hid (show 0 ≤ IntKind.i64.wrap ((IntKind.u8.wrap ((zn : Int) / 8)).tmod 4) ∧ IntKind.i64.wrap ((IntKind.u8.wrap ((zn : Int) / 8)).tmod 4) < 4 from by
    rw [IntKind.wrap_u8, Int.tmod_eq_emod_of_nonneg (by omega), IntWalk.i64_in _ (by omega)]
    omega)
   clear hv hbl hg hsb hz1 hsl hca hxb HA HR q1
   go_upto_region 15 with fail
   go_region_held3 (fun w' => w'.cell? ⟨g, o + i, none⟩ = some (.int .u8 zn)) (first | exact HSC.out _ (still_drew _) | exact HSC.out _ (by assumption) | exact HCW.out _ (by assumption)) (first
    | (go_at_call 17; (with_reducible refine (HST.out _ (still_drew _) (IntKind.i64.wrap ((IntKind.u8.wrap ((zn : Int) / 8)).tmod 4)) HJ.out.1 HJ.out.2).mono ?_); rintro en wc ⟨rfl, hrel⟩; have HREL := Lib.hid hrel; have hWc : Still W wc := (by obtain ⟨c', s', C', hx', -⟩ := hrel; exact hx'.lg.still); clear hrel))
   go_wp2_with fail
   go_roundw
   case rel => exact ⟨i + 1, by go_num, by have := HI.out; omega, HREL.out⟩
   case measure => simp [intOf]; have := HI.out; omega
 have d1 : decide ((i : Int) < (m : Int)) = false := decide_eq_false (by omega)
 have d2 : decide (i < m) = false := decide_eq_false hi
 have HREB := Lib.hid (show RebRel W d t pb m 0 wr from by
  obtain ⟨c, s, C, hx, hrs, hL⟩ := hrel
  have e : i = m := by omega
  subst e
  exact ⟨c, s, C, hx, hrs, hL, fun j j0 j1 => by omega⟩)
 clear hi him hrel
 go_wp2_with fail
 go_loopw [13] (fun s13 wr => ∃ k : Nat, s13 = .int .i64 k ∧ k ≤ 8 ∧ RebRel W d t pb m k wr) (fun s13 _ => 8 - (intOf s13).toNat)
 case atStart => exact ⟨0, rfl, by decide, HREB.out⟩
 clear HREB
 obtain ⟨k, rfl, hk8, hrel⟩ := hrel
 by_cases hk : k < 8
 · have d3 : decide ((k : Int) < 8) = true := decide_eq_true (by omega)
   have d4 : decide (k < 8) = true := decide_eq_true hk
   have HK := Lib.hid hk
   have uk : IntKind.i64.wrap ((k : Int) + 1) = (k : Int) + 1 := IntWalk.i64_in _ (by omega)
   obtain ⟨c, s, C, hx, hrs, hL, hcl⟩ := hrel
   obtain ⟨s', e1, e2, e3, e4, e5⟩ := rea_flush hrs (k := (k : Int)) (by omega) (by show (k : Int) < ((8 : Nat) : Int); omega)
   have HFL := Lib.hid (px_flush hx dif1 (k : Int) e1)
   have HX := Lib.hid (fun c' w' (h : PX W c' 1 2 3 4 w' pb d (some t) cfD s') => show RebRel W d t pb m (k + 1) w' from ⟨c', s', C, h, e2, e5 rfl hL, fun j j0 j1 => by
    by_cases hj : j = (k : Int)
    · rw [hj]
      exact e3
    · rw [e4 j hj]
      exact hcl j j0 (by omega)⟩)
   clear hx hrs hL hcl e1 e2 e3 e4 e5 hk hk8
   go_wp2_with fail
   refine HFL.out.mono ?_
   rintro en wc ⟨rfl, c', hs, hx⟩
   have HN := Lib.hid (HX.out c' wc hx)
   clear hs hx HFL
   go_wp2_with fail
   go_roundw
   case rel => exact ⟨k + 1, by go_num, by have := HK.out; omega, HN.out⟩
   case measure => simp [intOf]; have := HK.out; omega
 have d3 : decide ((k : Int) < 8) = false := decide_eq_false (by omega)
 have d4 : decide (k < 8) = false := decide_eq_false hk
 have he8 : k = 8 := by omega
 subst he8
 obtain ⟨c, s, C, hx, hrs, hL, hcl⟩ := hrel
 have hall := all_clean hrs.good (fun j j0 j1 => hcl j j0 j1)
 have hst := last_clean hL hall
 have HNP := Lib.hid (px_new (m := 5) (r := 6) hx.lg hx.dt dif2 (1 + (f3 : Int)) (1 + f3) (by have := HFF.out; omega) rfl rfl)
 have HX := Lib.hid (And.intro hx (And.intro hrs (And.intro hall hst)))
 clear hx hrs hL hcl hall hst hk hk8 d3 d4
 go_wp2_with fail
 refine HNP.out.mono ?_
 rintro en w5 ⟨qb, c5, rfl, hs5, hx5⟩
 have HREC := Lib.hid (show RecRel2 W d t pb qb w5 from by
  obtain ⟨hx, hrs, hall, hst⟩ := HX.out
  have hn : 0 < 1 + f3 := by omega
  refine ⟨c5, s, C, _, ⟨hx5.lg, hx5.dt.hand s.H, hx.po.keep hx.lg.low hs5 (fun e => e) (fun e => e) (fun e => by cases e) (by decide) (by decide)⟩, hx5.po, hrs.good, good_hand hrs.good hall hn, hall, mk_clean hn, hrs.l12, ?_, hst⟩
  show (List.replicate _ _).length ≤ 12
  rw [List.length_replicate]
  have := HFF.out
  omega)
 clear hs5 hx5 HNP HX
 go_wp2_with fail
 go_loopw [15] (fun s15 wr => ∃ k : Nat, s15 = .int .i64 k ∧ k ≤ 8 ∧ RecRel2 W d t pb qb wr) (fun s15 _ => 8 - (intOf s15).toNat)
 case atStart => exact ⟨0, rfl, by decide, HREC.out⟩
 clear HREC
 obtain ⟨k, rfl, hk8, hrel⟩ := hrel
 by_cases hk : k < 8
 · have d3 : decide ((k : Int) < 8) = true := decide_eq_true (by omega)
   have d4 : decide (k < 8) = true := decide_eq_true hk
   have HK := Lib.hid hk
   have uk : IntKind.i64.wrap ((k : Int) + 1) = (k : Int) + 1 := IntWalk.i64_in _ (by omega)
   obtain ⟨c, s, C, H, hx, hq, hg, hgq, hcl, hclq, hl, hlq, hst⟩ := hrel
   have h0 : (0 : Int) ≤ (k : Int) := by omega
   have h1 : (k : Int) < (cfD.pages : Int) := by show (k : Int) < ((8 : Nat) : Int); omega
   obtain ⟨H1, e1, g1, cl1, l1⟩ := page_clean_k hg hcl h0 h1
   obtain ⟨H2, e2, g2, cl2, l2⟩ := page_clean_k hgq hclq h0 h1
   have HPG := Lib.hid (px_page hx dif1 (k : Int) e1)
   have HQ := Lib.hid (And.intro e2 (And.intro (show PoAt c 5 6 wr qb d (some t) cfD H from hq) hx.lg.low))
   have HG := Lib.hid (And.intro (show Good cfD { s with H := H1 } C from g1) (And.intro (show Good cfD { s with H := H2 } C from g2) (And.intro cl1 (And.intro cl2 (And.intro (show H1.l.length ≤ 12 by rw [l1]; exact hl) (And.intro (show H2.l.length ≤ 12 from Nat.le_trans (Nat.le_of_eq l2) hlq) hst))))))
   have HFB := Lib.hid (And.intro (fit_blank (hg.fit k h0 h1)) (hg.fit k h0 h1))
   obtain ⟨pc, hpc⟩ : ∃ p, C k = p := ⟨_, rfl⟩
   rw [hpc] at HPG HFB HQ
   clear hx hq hg hgq hcl hclq hl hlq hst e1 e2 g1 g2 cl1 cl2 l1 l2 h0 h1 hk hk8 hpc
   have HCN := Lib.hid (fun w tt => cellsAt_new w [.slice none 0 0, .slice none 0 0, .slice none 0 0, .slice none 0 0, .int .i64 0] tt)
   go_wp2_with fail
   refine HPG.out.mono ?_
   rintro en wa ⟨v0, v1, v2, v3, ca, rfl, hsa, hxa, hpa⟩
   obtain ⟨z, hz⟩ : ∃ z, pc.lsn = z := ⟨_, rfl⟩
   rw [hz]
   have HZ := Lib.hid hz
   have HONE := Lib.hid (one_page hpa z)
   have HA := Lib.hid (And.intro hxa (And.intro hpa (And.intro hsa (po_other HQ.out.2.1 HQ.out.2.2 hsa dif2 (by decide) (by decide) (by decide)))))
   clear hsa hxa hpa hz HPG
   go_upto_region 27 with ((with_reducible (show wpList _ _ _ ({ dst := none, op := Op.store 36 _ _, type := _, pos := _, after := _, guard := _ } :: _) _ _)); (refine wpList_storeAgg rfl 36 _ _ rfl wa.heap.size #[v0, v1, v2, v3, .int .i64 z] rfl rfl (HCN.out _ _) size_page rfl HONE.out ?_; intro wb hcf hof hzf; have HB := Lib.hid (And.intro hcf (And.intro hof hzf)); clear hcf hof hzf))
   have hsb : Still wa wb := ((Still.refl wa).alloc _).andThen HB.out.2.1 fun x hx e => by have e' : x = wa.heap.size := e; omega
   have HSB := Lib.hid hsb
   have HPQ := Lib.hid (px_page ((HA.out.1.calm dif1 hsb).other (HA.out.2.2.2.still HA.out.1.lg.low hsb (by decide) (by decide))) dif2 (k : Int) (show PSt.page cfD (k : Int) ({ ({ s with H := H1 } : PSt) with H := H } : PSt) = _ from HQ.out.1))
   clear hsb
   go_wp2_with fail
   refine HPQ.out.mono ?_
   rintro en wc ⟨x0, x1, x2, x3, cc, rfl, hsc, hxc, hpc⟩
   rw [HZ.out]
   have HONE2 := Lib.hid (one_page hpc z)
   have HCC := Lib.hid (And.intro hxc (And.intro hpc (And.intro hsc (po_other (HA.out.1.calm dif1 HSB.out).po (HA.out.1.calm dif1 HSB.out).lg.low hsc dif1 (by decide) (by decide) (by decide)))))
   clear hsc hxc hpc HPQ
   go_upto_region 28 with ((with_reducible (show wpList _ _ _ ({ dst := none, op := Op.store 36 _ _, type := _, pos := _, after := _, guard := _ } :: _) _ _)); (refine wpList_storeAgg rfl 36 _ _ rfl wc.heap.size #[x0, x1, x2, x3, .int .i64 z] rfl rfl (HCN.out _ _) size_page rfl HONE2.out ?_; intro wd hcf hof hzf; have HD := Lib.hid (And.intro hcf (And.intro hof hzf)); clear hcf hof hzf))
   have hsd : Still wc wd := ((Still.refl wc).alloc _).andThen HD.out.2.1 fun x hx e => by have e' : x = wc.heap.size := e; omega
   have HSD := Lib.hid hsd
   have n0 : ∀ x, ca x = 0 → ¬ (ca x = 1 ∨ ca x = 2 ∨ ca x = 5) := fun x e h => by rw [e] at h; rcases h with h | h | h <;> cases h
   have hc1 : cellsAt wd wa.heap.size [v0, v1, v2, v3, .int .i64 z] := (HB.out.1.only HCC.out.2.2.1.only (n0 _ (Classical.byContradiction fun e => by have := HA.out.1.lg.low _ e; omega))).only hsd fun e => e
   have hp1 := ((HA.out.2.1.still HSB.out).only HCC.out.2.2.1.only (fun g hg => n0 g hg.1)).still hsd
   have hp2 := HCC.out.2.1.still hsd
   have HSP := Lib.hid (samepage_any wd v0 v1 v2 v3 x0 x1 x2 x3 pc.c z hp1 hp2 HFB.out.1)
   have a10 : wd.cell? ⟨wa.heap.size, 0, none⟩ = some (v0) := hc1.cell 0
   have a11 : wd.cell? ⟨wa.heap.size, 1, none⟩ = some (v1) := hc1.cell 1
   have a12 : wd.cell? ⟨wa.heap.size, 2, none⟩ = some (v2) := hc1.cell 2
   have a13 : wd.cell? ⟨wa.heap.size, 3, none⟩ = some (v3) := hc1.cell 3
   have a14 : wd.cell? ⟨wa.heap.size, 4, none⟩ = some (.int .i64 z) := hc1.cell 4
   have a20 : wd.cell? ⟨wc.heap.size, 0, none⟩ = some (x0) := HD.out.1.cell 0
   have a21 : wd.cell? ⟨wc.heap.size, 1, none⟩ = some (x1) := HD.out.1.cell 1
   have a22 : wd.cell? ⟨wc.heap.size, 2, none⟩ = some (x2) := HD.out.1.cell 2
   have a23 : wd.cell? ⟨wc.heap.size, 3, none⟩ = some (x3) := HD.out.1.cell 3
   have a24 : wd.cell? ⟨wc.heap.size, 4, none⟩ = some (.int .i64 z) := HD.out.1.cell 4
   clear hsd n0 hc1 hp1 hp2
   go_wp2_with fail
   refine HSP.out.mono ?_
   rintro en we ⟨rfl, hse⟩
   have HN := Lib.hid (show RecRel2 W d t pb qb we from by
    obtain ⟨g1, g2, cl1, cl2, l1, l2, hst⟩ := HG.out
    have hsw := HSD.out.trans hse
    exact ⟨cc, { s with H := H1 }, C, H2, ⟨(HCC.out.1.calm dif2 hsw).lg, (HCC.out.1.calm dif2 hsw).dt.hand H1, HCC.out.2.2.2.still HCC.out.1.lg.low hsw (by decide) (by decide)⟩, (HCC.out.1.calm dif2 hsw).po, g1, g2, cl1, cl2, l1, l2, hst⟩)
   clear hse HSP a10 a11 a12 a13 a14 a20 a21 a22 a23 a24
   go_wp2_with fail
   go_roundw
   case rel => exact ⟨k + 1, by go_num, by have := HK.out; omega, HN.out⟩
   case measure => simp [intOf]; have := HK.out; omega
 have d3 : decide ((k : Int) < 8) = false := decide_eq_false (by omega)
 have d4 : decide (k < 8) = false := decide_eq_false hk
 obtain ⟨c, s, C, H, hx, hq, hg, hgq, hcl, hclq, hl, hlq, hst⟩ := hrel
 have HD1 := Lib.hid (px_dirty hx dif1 hl)
 have HH := Lib.hid (And.intro hx (And.intro hq (And.intro (clean_dirty hg.nice hcl) (And.intro (clean_dirty hgq.nice hclq) (And.intro hlq hst)))))
 clear hx hq hg hgq hcl hclq hl hlq hst hk hk8
 go_wp2_with fail
 refine HD1.out.mono ?_
 rintro en wa ⟨dv, M, rfl, hM, -, hdv, hsa, -⟩
 rw [HH.out.2.2.1] at hM
 have hM1 : M = [] := List.perm_nil.1 hM
 subst hM1
 obtain ⟨ea, ec, rfl⟩ := hdv.form'
 have hxa := HH.out.1.calm dif1 hsa
 have hqa := HH.out.2.1.still HH.out.1.lg.low hsa (by decide) (by decide)
 have HD2 := Lib.hid (px_dirty (hxa.other hqa) dif2 HH.out.2.2.2.2.1)
 have HA := Lib.hid hxa
 clear hM hdv hsa hxa hqa HD1
 go_wp2_with fail
 refine HD2.out.mono ?_
 rintro en wb ⟨dv, M, rfl, hM, -, hdv, hsb, -⟩
 have hM2 : M.Perm [] := by
  have e := HH.out.2.2.2.1
  rw [← e]
  exact hM
 have hM1 : M = [] := List.perm_nil.1 hM2
 subst hM1
 obtain ⟨fa, fc, rfl⟩ := hdv.form'
 have hxb := HA.out.calm dif1 hsb
 obtain ⟨N, hN⟩ : ∃ N : Int, (s.es.length : Int) = N := ⟨_, rfl⟩
 have HS := Lib.hid (stable_x (hxb.dt.tr t rfl) (N := N) (by rw [HH.out.2.2.2.2.2]; exact hN))
 have HCT := Lib.hid (fun w' (hs : Still wb w') => count_x ((hxb.dt.tr t rfl).still hs) (N := N) hN)
 have HB := Lib.hid hxb
 clear hM hM2 hdv hsb hxb HD2 hN
 go_wp2_with fail
 refine HS.out.mono ?_
 rintro en wc ⟨rfl, rfl⟩
 go_wp2_with fail
 refine (HCT.out _ (Still.refl _)).mono ?_
 rintro en wd ⟨rfl, hsd⟩
 have F := Lib.hid (show BTrue W (.returned (.bool true)) wd from ⟨rfl, hsd ▸ HB.out.lg.still⟩)
 have p1 : (N == N) = true := by simp
 clear hsd
 go_wp2_with fail
 go_ret
 exact F.out
end Go.Proofs.YtlcfoeikamkpmaaGreat

namespace Go.Proofs.YtlcfoeikamkpmaaGreat
open Go.RowKit Go.Wh Go.Maps Go.ChangeShapes Go.WideShapes Go.ChangeAt

theorem row_sl {W : World} {a : Option Addr} {m c : Nat} {zs : List Int} (h : IsRow .u8 W a m zs) (hm : 0 < m) : Sl W (fun _ => True) 1 (.slice a m c) m (bc zs) := by
 rcases h with ⟨h, _⟩ | ⟨b, off, rfl, hb, _, _, hl, hc, _⟩
 · omega
 · refine ⟨by rw [bc_length]; omega, .inr ⟨b, off, c, rfl, fun _ => ⟨trivial, hb⟩, fun j u hj => ?_⟩⟩
   have hjl := (List.getElem?_eq_some_iff.1 hj).1
   rw [bc_length] at hjl
   rw [hc j (by omega)]
   have e : (bc zs)[j]? = some (.int .u8 (zs.getD j 0)) := by
    unfold bc
    rw [List.getElem?_map, List.getD_eq_getElem?_getD, List.getElem?_eq_getElem hjl]
    rfl
   rw [← e]
   exact hj
theorem row_byt {W : World} {a : Option Addr} {m : Nat} {zs : List Int} (h : IsRow .u8 W a m zs) : Byt zs := by
 rcases h with ⟨_, rfl⟩ | ⟨b, off, rfl, hb, _, _, hl, hc, hw⟩
 · intro z hz; cases hz
 · intro z hz
   have := byte_wf (hw z hz)
   omega
end Go.Proofs.YtlcfoeikamkpmaaGreat

namespace Go.Proofs.YtlcfoeikamkpmaaGreat
open Go.RowKit Go.Wh Go.ChangeShapes Go.WideShapes Go.ChangeAt

theorem reaOwn : ownKnob Tryz.prog.godebug = none := by kernel_rfl
theorem reaLaid : laidOutB Tryz.prog = true := by kernel_rfl

set_option maxRecDepth 100000 in
theorem poolReads_lifted (os : Os) (started : os.Started) (H : Type) (enc : TypeId × Value → H) :
 ReturnsInHanded {} Tryz.checked os 7 .any (Rows.poolReadsSpec.pre6 enc Tryz.prog Tryz.f7 Rows.poolReadsRow.domain false) (Rows.poolReadsSpec.post enc Tryz.prog Tryz.f7 false true false false) := by
 refine returnsInHanded_of_change (C := Tryz.checked) reaOwn started (by kernel_rfl) Tryz.func7
  (ChangeSpec.witness6 (enc := enc) (C := Tryz.checked) false ⟨#[], #[.slice none 0 0, .int .u8 0], []⟩ 8 (by kernel_rfl) (by kernel_rfl) (by kernel_rfl) (by kernel_rfl)) ?_
 intro W base args ds gs before hval0 hW hcnd _
 have hval : ∀ (j : Nat) t v, Tryz.f7.params[j]? = some t → args[j]? = some v → Value.okWide Tryz.prog W .any base t v := hval0
 have hW' := hW
 obtain ⟨p, q, hA0, hV, rfl, hfz, hnd⟩ := hW
 have hA : DataW.TrodAll enc Tryz.prog W 0 (fun _ => true) true Tryz.f7.params.toList args.toList ds p := hA0
 rw [Tryz.params7] at hA hval
 obtain ⟨v0, v1, d0, d1, p0, p1, rfl, rfl, rfl, h0, h1⟩ := trodAll_two hA
 obtain ⟨a0, m0, c0, z0, rfl, w0, l0⟩ := open_row Tryz.underlying22 Tryz.underlying5 (by kernel_rfl) (hval 0 22 v0 rfl rfl) h0
 obtain ⟨n1, rfl, rfl, rfl, w1⟩ := open_int Tryz.underlying5 (hval 1 5 v1 rfl rfl) h1
 have walk : Calls Tryz.prog 7 #[.slice a0 m0 c0, .int .u8 n1] W (BTrue W) := by
  exact reads_walk W (fun _ => True) a0 m0 c0 z0 n1 ⟨l0, row_sl w0, row_byt w0⟩ (byte_wf w1).1
 refine walk.mono fun e W' ⟨he, bel⟩ => ?_
 subst he
 exact ⟨_, rfl, law_post reaLaid (t := 4) rfl Tryz.underlying4 rfl (by intro t ht; rw [show Tryz.f7.params.toList = [22, 5] from rfl] at ht; simp at ht; rcases ht with rfl | rfl <;> exact ⟨by kernel_rfl, of_decide_eq_true (by kernel_rfl)⟩) hW' rfl (Only.below bel (Nat.le_refl _) fun _ _ e => e)⟩

theorem poolReads_holds : Rows.PoolReadsSaid :=
 OpenClaim.holds_of_wide 7 Tryz.f7 rfl rfl rfl rfl rfl rfl rfl ⟨rfl, rfl, rfl, rfl, rfl⟩ rfl rfl rfl rfl rfl (by kernel_rfl) Tryz.func7 (by kernel_rfl)
  (of_decide_eq_true (by kernel_rfl)) (by unfold Func.isWrapper; first | (rw [if_pos (by decide +kernel)]; kernel_rfl) | (rw [if_neg (by decide +kernel)]; exact ⟨rfl, rfl⟩))
  (fun os started H enc _ => poolReads_lifted os started H enc)
#print axioms poolReads_holds
end Go.Proofs.YtlcfoeikamkpmaaGreat
