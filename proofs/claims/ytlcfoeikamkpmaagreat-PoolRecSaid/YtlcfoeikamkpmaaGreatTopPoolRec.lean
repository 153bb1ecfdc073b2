/- What a hand shows: plain laws of look, touch, swap, put; the dirty pages. No program. No conditions. A pool on a disk that nothing cuts: what its operations show: plain. No program. No conditions. A pool on a disk that nothing cuts: a page got, set, flushed; a new one: plain. No program. No conditions. Where a law about pools stands: contracts of the pool's methods by what they show; rows of one letter. Conditions: the pool, the disk and the trail lie in memory. The first entry that a dirty page does not have on the disk: plain. No program. No conditions. The first entry that a dirty page does not have: the law's walk. Conditions: a slice of bytes that lies in memory, a number. An argument of bytes as a slice that is only read. No conditions. PoolRec: for every input the law returns true and its arguments read as before. No conditions beyond the row's. -/
import Derived.Test.YtlcfoeikamkpmaaGreatPq29
import Derived.BigQuiet
namespace Go.Proofs.YtlcfoeikamkpmaaGreat
open Go.Wh

section
variable {V : Type}
def Pl.core (x : Pl V) : Int × V × Bool := (x.k, x.v, x.has)
def coreL (l : List (Pl V)) : List (Int × V × Bool) := l.map Pl.core
structure Hd.nice (h : Hd V) : Prop where
 uni : ∀ (i j : Nat) (x y : Pl V), h.l[i]? = some x → h.l[j]? = some y → x.has = true → y.has = true → x.k = y.k → i = j
 lt : h.at_ < h.l.length
theorem look_iff {h : Hd V} (hn : h.nice) {k : Int} {v : V} : h.look k = some v ↔ ∃ (i : Nat) (x : Pl V), h.l[i]? = some x ∧ x.has = true ∧ x.k = k ∧ x.v = v := by
 unfold Hd.look
 constructor
 · intro e
   cases hx : h.l[fdI (isK k) h.l]? with
   | none => rw [hx] at e; cases e
   | some x =>
    rw [hx] at e
    have hlt : fdI (isK k) h.l < h.l.length := (List.getElem?_eq_some_iff.1 hx).1
    obtain ⟨y, hy, hp⟩ := fdI_lt hlt
    rw [hx] at hy
    cases hy
    unfold isK at hp
    simp only [Bool.and_eq_true, beq_iff_eq] at hp
    exact ⟨_, x, hx, hp.1, hp.2, Option.some.inj e⟩
 · rintro ⟨i, x, hx, h1, h2, rfl⟩
   have hp : isK k x = true := by
    unfold isK
    rw [h1, h2]
    simp
   have e : fdI (isK k) h.l = i := fdI_at (fun j y hj hy => by
    by_cases hq : isK k y = true
    · exfalso
      unfold isK at hq
      simp only [Bool.and_eq_true, beq_iff_eq] at hq
      have := hn.uni i j x y hx hy h1 hq.1 (by rw [h2, hq.2])
      omega
    · simpa using hq) hx hp
   rw [e, hx]
   rfl
theorem core_get {l m : List (Pl V)} (h : coreL l = coreL m) {i : Nat} {x : Pl V} (hx : l[i]? = some x) : ∃ y, m[i]? = some y ∧ y.has = x.has ∧ y.k = x.k ∧ y.v = x.v := by
 have e : (coreL m)[i]? = some x.core := by
  rw [← h]
  unfold coreL
  rw [List.getElem?_map, hx]
  rfl
 unfold coreL at e
 rw [List.getElem?_map] at e
 cases hy : m[i]? with
 | none => rw [hy] at e; cases e
 | some y =>
  rw [hy] at e
  have e2 : y.core = x.core := Option.some.inj e
  unfold Pl.core at e2
  injection e2 with a b
  injection b with b c
  exact ⟨y, rfl, c, a, b⟩
theorem nice_core {h g : Hd V} (hc : coreL g.l = coreL h.l) (hn : h.nice) (hl : g.at_ < h.l.length) : g.nice := by
 refine ⟨fun i j x y hx hy h1 h2 h3 => ?_, ?_⟩
 · obtain ⟨x', a1, a2, a3, a4⟩ := core_get hc hx
   obtain ⟨y', b1, b2, b3, b4⟩ := core_get hc hy
   exact hn.uni i j x' y' a1 b1 (by rw [a2]; exact h1) (by rw [b2]; exact h2) (by rw [a3, b3]; exact h3)
 · have : (coreL g.l).length = (coreL h.l).length := by rw [hc]
   unfold coreL at this
   rw [List.length_map, List.length_map] at this
   omega
theorem core_len {l m : List (Pl V)} (h : coreL l = coreL m) : l.length = m.length := by
 have : (coreL l).length = (coreL m).length := by rw [h]
 unfold coreL at this
 rwa [List.length_map, List.length_map] at this
theorem look_core {h g : Hd V} (hc : coreL g.l = coreL h.l) (hn : h.nice) (gn : g.nice) (k : Int) : g.look k = h.look k := by
 apply Option.ext
 intro v
 rw [look_iff hn, look_iff gn]
 constructor
 · rintro ⟨i, x, hx, h1, h2, h3⟩
   obtain ⟨y, a1, a2, a3, a4⟩ := core_get hc hx
   exact ⟨i, y, a1, by rw [a2]; exact h1, by rw [a3]; exact h2, by rw [a4]; exact h3⟩
 · rintro ⟨i, x, hx, h1, h2, h3⟩
   obtain ⟨y, a1, a2, a3, a4⟩ := core_get hc.symm hx
   exact ⟨i, y, a1, by rw [a2]; exact h1, by rw [a3]; exact h2, by rw [a4]; exact h3⟩
theorem modI_core {f : Pl V → Pl V} (hf : ∀ x, (f x).core = x.core) : ∀ (i : Nat) (l : List (Pl V)), coreL (modI f i l) = coreL l
 | _, [] => by simp [modI]
 | 0, x :: l => by simp [modI, coreL, hf x]
 | i + 1, x :: l => by
  have := modI_core hf i l
  unfold coreL at this ⊢
  simp [modI, this]
theorem turn_core : ∀ (n : Nat) (h : Hd V), h.at_ < h.l.length → coreL (h.turn n).2.l = coreL h.l ∧ (h.turn n).2.at_ < h.l.length ∧ (h.turn n).1 < h.l.length
 | 0, h, hl => ⟨rfl, hl, hl⟩
 | n + 1, h, hl => by
  unfold Hd.turn
  have hm : (h.at_ + 1) % h.l.length < h.l.length := Nat.mod_lt _ (by omega)
  cases e : h.l[h.at_]? with
  | none => exact ⟨rfl, hl, hl⟩
  | some x =>
   simp only
   split
   · exact ⟨rfl, hm, hl⟩
   · have hlen : (modI Pl.off h.at_ h.l).length = h.l.length := modI_length _ _ _
     obtain ⟨a1, a2, a3⟩ := turn_core n ⟨modI Pl.off h.at_ h.l, (h.at_ + 1) % h.l.length⟩ (by rw [hlen]; exact hm)
     refine ⟨a1.trans (modI_core (f := Pl.off) (fun _ => rfl) _ _), ?_, ?_⟩
     · have := a2
       dsimp only at this
       rw [hlen] at this
       exact this
     · have := a3
       dsimp only at this
       rw [hlen] at this
       exact this
theorem touch_spec {h : Hd V} (hn : h.nice) (k : Int) : (h.touch k).nice ∧ (h.touch k).l.length = h.l.length ∧ ∀ k', (h.touch k).look k' = h.look k' := by
 have hc : coreL (h.touch k).l = coreL h.l := modI_core (f := Pl.on) (fun _ => rfl) _ _
 have hn' := nice_core (g := h.touch k) hc hn hn.lt
 exact ⟨hn', core_len hc, look_core hc hn hn'⟩
theorem modI_get {f : Pl V → Pl V} : ∀ (i : Nat) (l : List (Pl V)) (j : Nat), (modI f i l)[j]? = if j = i then l[j]?.map f else l[j]?
 | _, [], j => by simp [modI]
 | 0, x :: l, j => by
  cases j with
  | zero => simp [modI]
  | succ j => simp [modI]
 | i + 1, x :: l, j => by
  cases j with
  | zero => simp [modI]
  | succ j =>
   simp only [modI, List.getElem?_cons_succ, Nat.add_right_cancel_iff]
   exact modI_get i l j
theorem mod_spec {h : Hd V} (hn : h.nice) (k : Int) (v : V) {f : Pl V → Pl V} (hf : ∀ x, (f x).core = (x.k, v, x.has)) (a : Nat) (ha : a < h.l.length) :
 Hd.nice ⟨modI f (fdI (isK k) h.l) h.l, a⟩ ∧ ∀ k', Hd.look ⟨modI f (fdI (isK k) h.l) h.l, a⟩ k' = if k' = k ∧ (h.look k).isSome = true then some v else h.look k' := by
 have f1 : ∀ x, (f x).k = x.k ∧ (f x).v = v ∧ (f x).has = x.has := fun x => by
  have := hf x
  unfold Pl.core at this
  injection this with a b
  injection b with b c
  exact ⟨a, b, c⟩
 have hget : ∀ {j : Nat} {y : Pl V}, (modI f (fdI (isK k) h.l) h.l)[j]? = some y → ∃ x, h.l[j]? = some x ∧ y.k = x.k ∧ y.has = x.has ∧ (j = fdI (isK k) h.l → y.v = v) ∧ (j ≠ fdI (isK k) h.l → y.v = x.v) := by
  intro j y hy
  rw [modI_get] at hy
  split at hy
  · rename_i hj
    cases hx : h.l[j]? with
    | none => rw [hx] at hy; cases hy
    | some x =>
     rw [hx] at hy
     have e : f x = y := Option.some.inj hy
     subst e
     exact ⟨x, rfl, (f1 x).1, (f1 x).2.2, fun _ => (f1 x).2.1, fun e => absurd hj e⟩
  · rename_i hj
    exact ⟨y, hy, rfl, rfl, fun e => absurd e hj, fun _ => rfl⟩
 have hn' : Hd.nice (⟨modI f (fdI (isK k) h.l) h.l, a⟩ : Hd V) := by
  refine ⟨fun i j x y hx hy h1 h2 h3 => ?_, by show a < (modI _ _ _).length; rw [modI_length]; exact ha⟩
  obtain ⟨x', a1, a2, a3, -⟩ := hget hx
  obtain ⟨y', b1, b2, b3, -⟩ := hget hy
  exact hn.uni i j x' y' a1 b1 (by rw [← a3]; exact h1) (by rw [← b3]; exact h2) (by rw [← a2, ← b2]; exact h3)
 have hat : ∀ {i : Nat} {x : Pl V}, h.l[i]? = some x → x.has = true → x.k = k → fdI (isK k) h.l = i := by
  intro i x hx h1 h2
  have hlt : fdI (isK k) h.l < h.l.length := by
   rcases Nat.lt_or_ge (fdI (isK k) h.l) h.l.length with hq | hq
   · exact hq
   · exfalso
     have hi := (List.getElem?_eq_some_iff.1 hx).1
     have := fdI_no (p := isK k) (l := h.l) (i := i) (x := x) (by omega) hx
     unfold isK at this
     rw [h1, h2] at this
     simp at this
  obtain ⟨y, hy, hp⟩ := fdI_lt hlt
  unfold isK at hp
  simp only [Bool.and_eq_true, beq_iff_eq] at hp
  exact hn.uni _ _ y x hy hx hp.1 h1 (by rw [hp.2, h2])
 refine ⟨hn', fun k' => ?_⟩
 apply Option.ext
 intro u
 rw [look_iff hn']
 constructor
 · rintro ⟨j, y, hy, h1, h2, h3⟩
   obtain ⟨x, a1, a2, a3, a4, a5⟩ := hget hy
   by_cases hk : k' = k
   · have hj := hat a1 (by rw [← a3]; exact h1) (by rw [← a2, h2, hk])
     have hsome : h.look k = some x.v := (look_iff hn).2 ⟨j, x, a1, by rw [← a3]; exact h1, by rw [← a2, h2, hk], rfl⟩
     rw [if_pos ⟨hk, by rw [hsome]; rfl⟩, ← h3, a4 hj.symm]
   · rw [if_neg (fun e => hk e.1)]
     by_cases hj : j = fdI (isK k) h.l
     · exfalso
       have hi := (List.getElem?_eq_some_iff.1 a1).1
       obtain ⟨z, hz, hp⟩ := fdI_lt (p := isK k) (l := h.l) (by omega)
       rw [← hj, a1] at hz
       cases hz
       unfold isK at hp
       simp only [Bool.and_eq_true, beq_iff_eq] at hp
       exact hk (by rw [← h2, a2, hp.2])
     · exact (look_iff hn).2 ⟨j, x, a1, by rw [← a3]; exact h1, by rw [← a2]; exact h2, by rw [← a5 hj]; exact h3⟩
 · intro e
   split at e
   · rename_i hc
     obtain ⟨hk, hs⟩ := hc
     cases e
     cases hl : h.look k with
     | none => rw [hl] at hs; cases hs
     | some z =>
      obtain ⟨i, x, hx, h1, h2, h3⟩ := (look_iff hn).1 hl
      have hi := hat hx h1 h2
      refine ⟨i, f x, ?_, by rw [(f1 x).2.2]; exact h1, by rw [(f1 x).1, h2, hk], (f1 x).2.1⟩
      show (modI f (fdI (isK k) h.l) h.l)[i]? = _
      rw [modI_get, if_pos hi.symm, hx]
      rfl
   · rename_i hc
     obtain ⟨i, x, hx, h1, h2, h3⟩ := (look_iff hn).1 e
     by_cases hi : i = fdI (isK k) h.l
     · exfalso
       have hil := (List.getElem?_eq_some_iff.1 hx).1
       obtain ⟨z, hz, hp⟩ := fdI_lt (p := isK k) (l := h.l) (by omega)
       rw [← hi, hx] at hz
       cases hz
       unfold isK at hp
       simp only [Bool.and_eq_true, beq_iff_eq] at hp
       refine hc ⟨by rw [← h2, hp.2], ?_⟩
       rw [(look_iff hn).2 ⟨i, x, hx, hp.1, hp.2, rfl⟩]
       rfl
     · refine ⟨i, x, ?_, h1, h2, h3⟩
       show (modI f (fdI (isK k) h.l) h.l)[i]? = _
       rw [modI_get, if_neg hi]
       exact hx
theorem swap_spec {h : Hd V} (hn : h.nice) (k : Int) (v : V) : (h.swap k v).nice ∧ (h.swap k v).l.length = h.l.length ∧ ∀ k', (h.swap k v).look k' = if k' = k ∧ (h.look k).isSome = true then some v else h.look k' := by
 obtain ⟨a1, a2⟩ := mod_spec hn k v (f := (·.swap v)) (fun x => rfl) h.at_ hn.lt
 exact ⟨a1, modI_length _ _ _, a2⟩
theorem set_spec {h : Hd V} (hn : h.nice) (k : Int) (v : V) (hk : h.look k = none) (i : Nat) (z : Pl V) (hz : h.l[i]? = some z) (a : Nat) (ha : a < h.l.length) :
 Hd.nice ⟨h.l.set i ⟨k, v, true, true⟩, a⟩ ∧ ∀ k', Hd.look ⟨h.l.set i ⟨k, v, true, true⟩, a⟩ k' = if k' = k then some v else if z.has = true ∧ k' = z.k then none else h.look k' := by
 have hi := (List.getElem?_eq_some_iff.1 hz).1
 have hno : ∀ {j : Nat} {y : Pl V}, h.l[j]? = some y → y.has = true → y.k ≠ k := fun {j y} hy h1 h2 => by
  rw [(look_iff hn).2 ⟨j, y, hy, h1, h2, rfl⟩] at hk
  cases hk
 have hget : ∀ {j : Nat} {y : Pl V}, (h.l.set i ⟨k, v, true, true⟩)[j]? = some y → (j = i ∧ y = ⟨k, v, true, true⟩) ∨ (j ≠ i ∧ h.l[j]? = some y) := by
  intro j y hy
  by_cases hj : j = i
  · subst hj
    rw [List.getElem?_set_self hi] at hy
    exact .inl ⟨rfl, (Option.some.inj hy).symm⟩
  · rw [List.getElem?_set_ne (Ne.symm hj)] at hy
    exact .inr ⟨hj, hy⟩
 have hn' : Hd.nice (⟨h.l.set i ⟨k, v, true, true⟩, a⟩ : Hd V) := by
  refine ⟨fun p q x y hx hy h1 h2 h3 => ?_, by show a < (List.set _ _ _).length; rw [List.length_set]; exact ha⟩
  rcases hget hx with ⟨rfl, rfl⟩ | ⟨e1, x1⟩
  · rcases hget hy with ⟨rfl, rfl⟩ | ⟨e2, y1⟩
    · rfl
    · exact absurd h3.symm (hno y1 h2)
  · rcases hget hy with ⟨rfl, rfl⟩ | ⟨e2, y1⟩
    · exact absurd h3 (hno x1 h1)
    · exact hn.uni p q x y x1 y1 h1 h2 h3
 refine ⟨hn', fun k' => ?_⟩
 apply Option.ext
 intro u
 rw [look_iff hn']
 constructor
 · rintro ⟨j, y, hy, h1, h2, h3⟩
   rcases hget hy with ⟨rfl, rfl⟩ | ⟨e1, y1⟩
   · rw [if_pos h2.symm, ← h3]
   · rw [if_neg (fun e => hno y1 h1 (by rw [h2, e])), if_neg (fun e => e1 (hn.uni j i y z y1 hz h1 e.1 (by rw [h2, e.2])))]
     exact (look_iff hn).2 ⟨j, y, y1, h1, h2, h3⟩
 · intro e
   split at e
   · rename_i hc
     cases e
     refine ⟨i, ⟨k, v, true, true⟩, ?_, rfl, hc.symm, rfl⟩
     show (h.l.set i _)[i]? = _
     rw [List.getElem?_set_self hi]
   · rename_i hc
     split at e
     · cases e
     · rename_i hd
       obtain ⟨j, x, hx, h1, h2, h3⟩ := (look_iff hn).1 e
       refine ⟨j, x, ?_, h1, h2, h3⟩
       show (h.l.set i _)[j]? = _
       rw [List.getElem?_set_ne (fun e => by
        subst e
        rw [hz] at hx
        cases hx
        exact hd ⟨h1, h2.symm⟩)]
       exact hx
theorem put_spec {h : Hd V} (hn : h.nice) (void : V) (k : Int) (v : V) : (h.put void k v).2.nice ∧ (h.put void k v).2.l.length = h.l.length ∧
 (((h.put void k v).1 = (0, void, false) ∧ ((h.look k).isSome = true ∨ ∃ x ∈ h.l, x.has = false) ∧ ∀ k', (h.put void k v).2.look k' = if k' = k then some v else h.look k') ∨
  (h.look k = none ∧ (∀ x ∈ h.l, x.has = true) ∧ ∃ k0 v0, k0 ≠ k ∧ (h.put void k v).1 = (k0, v0, true) ∧ h.look k0 = some v0 ∧ ∀ k', (h.put void k v).2.look k' = if k' = k then some v else if k' = k0 then none else h.look k')) := by
 have hlen := put_len h void v k
 by_cases h1 : fdI (isK k) h.l < h.l.length
 · obtain ⟨a1, a2⟩ := mod_spec hn k v (f := (·.with v)) (fun x => rfl) h.at_ hn.lt
   have hs : (h.look k).isSome = true := by
    obtain ⟨x, hx, hp⟩ := fdI_lt h1
    unfold Hd.look
    rw [hx]
    rfl
   have e : h.put void k v = ((0, void, false), ⟨modI (·.with v) (fdI (isK k) h.l) h.l, h.at_⟩) := by
    unfold Hd.put
    rw [if_pos h1]
   rw [e] at hlen ⊢
   refine ⟨a1, hlen, .inl ⟨rfl, .inl hs, fun k' => ?_⟩⟩
   rw [a2 k']
   by_cases e : k' = k
   · rw [if_pos ⟨e, hs⟩, if_pos e]
   · rw [if_neg (fun e2 => e e2.1), if_neg e]
 have hk : h.look k = none := by
  unfold Hd.look
  rw [List.getElem?_eq_none (by omega)]
  rfl
 by_cases h2 : fdI noH h.l < h.l.length
 · obtain ⟨z, hz, hp⟩ := fdI_lt h2
   have hzh : z.has = false := by
    unfold noH at hp
    simpa using hp
   obtain ⟨a1, a2⟩ := set_spec hn k v hk _ z hz h.at_ hn.lt
   have e : h.put void k v = ((0, void, false), ⟨h.l.set (fdI noH h.l) ⟨k, v, true, true⟩, h.at_⟩) := by
    unfold Hd.put
    rw [if_neg h1, if_pos h2]
   rw [e] at hlen ⊢
   refine ⟨a1, hlen, .inl ⟨rfl, .inr ⟨z, List.mem_of_getElem? hz, hzh⟩, fun k' => ?_⟩⟩
   rw [a2 k', hzh]
   simp
 obtain ⟨t1, t2, t3⟩ := turn_core (2 * h.l.length) h hn.lt
 have tl := core_len t1
 have tn := nice_core (g := (h.turn (2 * h.l.length)).2) t1 hn t2
 have tk := look_core t1 hn tn
 obtain ⟨z, hz⟩ : ∃ z, (h.turn (2 * h.l.length)).2.l[(h.turn (2 * h.l.length)).1]? = some z := ⟨_, List.getElem?_eq_getElem (by rw [tl]; exact t3)⟩
 have hall : ∀ x ∈ h.l, x.has = true := fun x hx => by
  obtain ⟨j, hj⟩ := List.getElem?_of_mem hx
  have hjl := (List.getElem?_eq_some_iff.1 hj).1
  have := fdI_no (p := noH) (l := h.l) (i := j) (x := x) (by omega) hj
  unfold noH at this
  simpa using this
 have hzh : z.has = true := by
  obtain ⟨y, hy, e1, -⟩ := core_get t1 hz
  rw [← e1]
  exact hall y (List.mem_of_getElem? hy)
 obtain ⟨a1, a2⟩ := set_spec tn k v (by rw [tk]; exact hk) _ z hz (h.turn (2 * h.l.length)).2.at_ (by rw [tl]; exact t2)
 have hzl : h.look z.k = some z.v := by
  rw [← tk]
  exact (look_iff tn).2 ⟨_, z, hz, hzh, rfl, rfl⟩
 have e : h.put void k v = ((z.k, z.v, true), ⟨(h.turn (2 * h.l.length)).2.l.set (h.turn (2 * h.l.length)).1 ⟨k, v, true, true⟩, (h.turn (2 * h.l.length)).2.at_⟩) := by
  unfold Hd.put
  rw [if_neg h1, if_neg h2, hz]
 rw [e] at hlen ⊢
 refine ⟨a1, hlen, .inr ⟨hk, hall, z.k, z.v, fun e => ?_, rfl, hzl, fun k' => ?_⟩⟩
 · rw [e, hk] at hzl
   cases hzl
 · rw [a2 k', tk k', hzh]
   simp
theorem mk_nice (void : V) {n : Nat} (hn : 0 < n) : (mkHd void n).nice ∧ ∀ k, (mkHd void n).look k = none := by
 have hx : ∀ {i : Nat} {x : Pl V}, (mkHd void n).l[i]? = some x → x.has = false := fun {i x} e => by
  rw [List.eq_of_mem_replicate (List.mem_of_getElem? e)]
 have hni : (mkHd void n).nice := ⟨fun i j x y e1 e2 h1 => (by rw [hx e1] at h1; cases h1), by show 0 < (List.replicate n _).length; rw [List.length_replicate]; exact hn⟩
 refine ⟨hni, fun k => ?_⟩
 cases e : (mkHd void n).look k with
 | none => rfl
 | some v =>
  obtain ⟨i, x, h1, h2, -⟩ := (look_iff hni).1 e
  rw [hx h1] at h2
  cases h2
theorem keys_iff {h : Hd V} (hn : h.nice) {k : Int} : k ∈ h.keys ↔ (h.look k).isSome = true := by
 unfold Hd.keys
 rw [List.mem_map]
 constructor
 · rintro ⟨x, hx, rfl⟩
   obtain ⟨h1, h2⟩ := List.mem_filter.1 hx
   obtain ⟨i, hi⟩ := List.getElem?_of_mem h1
   rw [(look_iff hn).2 ⟨i, x, hi, h2, rfl, rfl⟩]
   rfl
 · intro e
   cases hl : h.look k with
   | none => rw [hl] at e; cases e
   | some v =>
    obtain ⟨i, x, hx, h1, h2, -⟩ := (look_iff hn).1 hl
    exact ⟨x, List.mem_filter.2 ⟨List.mem_of_getElem? hx, h1⟩, h2⟩
theorem keys_nodup {h : Hd V} (hn : h.nice) : h.keys.Pairwise (· ≠ ·) := by
 unfold Hd.keys
 rw [List.pairwise_map, List.pairwise_filter, List.pairwise_iff_getElem]
 intro i j hi hj hij h1 h2 e
 have := hn.uni i j _ _ (List.getElem?_eq_getElem hi) (List.getElem?_eq_getElem hj) h1 h2 e
 omega
end
theorem dirtyK_some {H : Hd PFr} {k : Int} {x : Drt} : dirtyK H k = some x ↔ x.p = k ∧ ∃ f, H.look k = some f ∧ f.dirty = true ∧ x.r = f.rec_ := by
 unfold dirtyK
 cases h : H.look k with
 | none => simp
 | some f =>
  dsimp only
  split
  · rename_i hd
    constructor
    · intro e
      cases e
      exact ⟨rfl, f, rfl, hd, rfl⟩
    · rintro ⟨h1, g, h2, h3, h4⟩
      cases h2
      obtain ⟨xp, xr⟩ := x
      dsimp only at h1 h4
      rw [h1, h4]
  · rename_i hd
    constructor
    · intro e; cases e
    · rintro ⟨h1, g, h2, h3, h4⟩
      cases h2
      exact absurd h3 hd
theorem dirty_mem {H : Hd PFr} (hn : H.nice) {x : Drt} : x ∈ dirtyD H ↔ ∃ f, H.look x.p = some f ∧ f.dirty = true ∧ x.r = f.rec_ := by
 unfold dirtyD
 rw [List.mem_filterMap]
 constructor
 · rintro ⟨k, hk, e⟩
   obtain ⟨h1, h2⟩ := dirtyK_some.1 e
   rw [h1]
   exact h2
 · rintro ⟨f, h1, h2, h3⟩
   exact ⟨x.p, (keys_iff hn).2 (by rw [h1]; rfl), dirtyK_some.2 ⟨rfl, f, h1, h2, h3⟩⟩
theorem dirty_dist {H : Hd PFr} (hn : H.nice) : DDistinct (dirtyD H) := by
 unfold DDistinct dirtyD
 rw [List.pairwise_filterMap]
 refine (keys_nodup hn).imp ?_
 intro a b hab x hx y hy e
 exact hab (by rw [← (dirtyK_some.1 hx).1, ← (dirtyK_some.1 hy).1, e])
theorem dirty_is {H : Hd PFr} (hn : H.nice) {M E : List Drt} (hM : M.Perm (dirtyD H)) (hS : DSorted M) (hE : E.Pairwise fun a b => a.p < b.p) (hm : ∀ x, x ∈ E ↔ ∃ f, H.look x.p = some f ∧ f.dirty = true ∧ x.r = f.rec_) : M = E := by
 have hd : DDistinct M := (dirty_dist hn).perm hM.symm
 have hsE : DSorted E := hE.imp fun {a b} h => by
  unfold dl
  simp only [decide_eq_false_iff_not]
  omega
 have hdE : E.Pairwise (· ≠ ·) := hE.imp fun {a b} h e => by
  rw [e] at h
  omega
 have hdM : M.Pairwise (· ≠ ·) := hd.imp fun {a b} h e => h (by rw [e])
 refine dsorted_unique ?_ hS hsE hd
 refine (List.perm_ext_iff_of_nodup hdM hdE).2 fun x => ?_
 rw [hM.mem_iff, dirty_mem hn, hm]
end Go.Proofs.YtlcfoeikamkpmaaGreat

namespace Go.Proofs.YtlcfoeikamkpmaaGreat
open Go.Wh

structure PDk.well (D : PDk) : Prop where
 dead : D.dead = false
 plan : D.plan = none
 was : D.was = fun _ => none
theorem put_well {D : PDk} (hd : D.dead = false) (hp : D.plan = none) {i : Int} {l : List Int} (h0 : 0 ≤ i) (h1 : i < D.T.length) : D.put i l = (0, D.laid i.toNat l) := by
 have hm : D.may i = 0 := by
  unfold PDk.may
  rw [if_neg (by rw [hd]; decide), if_neg (by omega)]
 unfold PDk.put
 rw [hm, if_neg (by decide)]
 exact PDk.done_plain (D := D.laid i.toNat l) hp
theorem sync_well {D : PDk} (hd : D.dead = false) (hp : D.plan = none) : D.sync = (0, { D with was := fun _ => none }) := by
 have hc : D.cuts = false := by
  unfold PDk.cuts
  rw [hp]
 unfold PDk.sync
 rw [if_neg (by rw [hd]; decide), if_neg (by rw [hc]; decide)]
 unfold PDk.less
 rw [hp]
 rfl
theorem two_well {D : PDk} (hd : D.dead = false) (hp : D.plan = none) {i : Int} {a b : List Int} (h0 : 0 ≤ i) (h1 : i + 1 < D.T.length) :
 ∃ D', D.two i a b = (0, D') ∧ D'.well ∧ D'.T = (D.T.set i.toNat a).set (i.toNat + 1) b := by
 have e1 := put_well (l := a) hd hp h0 (show i < D.T.length by omega)
 have hd2 : (D.laid i.toNat a).dead = false := hd
 have hp2 : (D.laid i.toNat a).plan = none := hp
 have hl2 : (D.laid i.toNat a).T.length = D.T.length := List.length_set
 have e2 := put_well (l := b) hd2 hp2 (show 0 ≤ i + 1 by omega) (show i + 1 < (D.laid i.toNat a).T.length by rw [hl2]; omega)
 have hd3 : ((D.laid i.toNat a).laid (i + 1).toNat b).dead = false := hd
 have hp3 : ((D.laid i.toNat a).laid (i + 1).toNat b).plan = none := hp
 refine ⟨{ ((D.laid i.toNat a).laid (i + 1).toNat b) with was := fun _ => none }, ?_, ⟨hd3, hp3, rfl⟩, ?_⟩
 · unfold PDk.two
   rw [e1]
   dsimp only
   rw [if_neg (by decide), e2]
   dsimp only
   rw [if_neg (by decide), sync_well hd3 hp3]
 · show (D.T.set i.toNat a).set (i + 1).toNat b = _
   rw [show (i + 1).toNat = i.toNat + 1 by omega]
def onD (cf : PCf) (D : PDk) (k : Int) (p : PPg) : Prop := takeT (D.T.getD (cf.first + (2 * k).toNat) []) (D.T.getD (cf.first + (2 * k + 1).toNat) []) = (0, p)
structure PPg.fit (p : PPg) : Prop where
 ok : p.ok
 lsn : lsnMay p.lsn = true
 cell : ∀ l ∈ p.c, l = [] ∨ (cellT l = true ∧ nought l = false)
theorem fit_norm {p : PPg} (h : p.fit) : p.norm = p := by
 obtain ⟨c, z⟩ := p
 unfold PPg.norm
 congr 1
 have key : ∀ l ∈ c, (if nought (fullB l) then [] else fullB l) = l := fun l hl => by
  rcases h.cell l hl with rfl | ⟨_, e⟩
  · rfl
  · have hne : l ≠ [] := fun e2 => by
     rw [e2] at e
     cases e
    unfold fullB
    rw [if_neg hne, e]
    rfl
 rw [List.map_congr_left key]
 exact List.map_id _
theorem fit_take {p : PPg} (h : p.fit) : takeT (leafA p) (leafB p) = (0, p) := by
 have := takeT_leaf h.ok h.lsn fun l hl => (h.cell l hl).imp id fun e => e.1
 rw [this, fit_norm h]
theorem fit_may {p : PPg} (h : p.fit) : p.may = true := by
 unfold PPg.may
 rw [h.lsn, Bool.true_and, List.all_eq_true]
 intro l hl
 rcases h.ok.each l hl with e | e
 · rw [e]; rfl
 · rw [e]; simp
theorem fit_void : PPg.void.fit := by
 refine ⟨⟨rfl, fun l hl => ?_, fun l hl => ?_⟩, by decide, fun l hl => ?_⟩ <;>
  · have : l ∈ ([[], [], [], []] : List (List Int)) := hl
    simp only [List.mem_cons, List.not_mem_nil, or_false] at this
    rcases this with rfl | rfl | rfl | rfl <;> first | exact .inl rfl | (intro z hz; cases hz)
structure Good (cf : PCf) (s : PSt) (C : Int → PPg) : Prop where
 well : s.D.well
 sep : cf.first + 2 * cf.pages ≤ cf.at_
 room : cf.at_ + cf.n ≤ s.D.T.length
 nice : s.H.nice
 st_le : s.st ≤ s.es.length
 fit : ∀ k : Int, 0 ≤ k → k < cf.pages → (C k).fit
 key : ∀ k f, s.H.look k = some f → 0 ≤ k ∧ k < cf.pages ∧ f.p = C k ∧ (f.dirty = false → onD cf s.D k (C k))
 none : ∀ k : Int, 0 ≤ k → k < cf.pages → s.H.look k = none → onD cf s.D k (C k)
section
variable {cf : PCf} {s : PSt} {C : Int → PPg}
def stW (cf : PCf) (s : PSt) (z : Int) : Nat := if cf.tr = true ∧ (s.st : Int) < z then s.es.length else s.st
theorem ahead_well (hw : s.D.well) (f : PFr) : ∃ D', s.ahead cf f = (0, ⟨D', s.es, stW cf s f.p.lsn, s.H⟩) ∧ D'.well ∧ D'.T.length = s.D.T.length ∧ ∀ j, j < cf.at_ → D'.T[j]? = s.D.T[j]? := by
 unfold PSt.ahead stW
 split
 · unfold PSt.force foB
   by_cases hs : s.st = s.es.length
   · rw [if_pos hs]
     exact ⟨s.D, by rw [← hs], hw, rfl, fun _ _ => rfl⟩
   · rw [if_neg hs, if_neg (by rw [hw.dead]; decide)]
     obtain ⟨h1, h2⟩ := PDk.clean_plain (S := streamB s.es) (at_ := cf.at_) (n := cf.n) hw.dead hw.plan
     obtain ⟨k1, k2, k3, k4⟩ := PDk.clean_ok (S := streamB s.es) (at_ := cf.at_) (n := cf.n) (PDk.fine_none hw.plan) hw.dead hw.was h1
     refine ⟨(s.D.clean cf.at_ (streamB s.es) cf.n).2, ?_, ⟨k2, h2, k4⟩, ?_, fun j hj => ?_⟩
     · dsimp only
       rw [h1, if_pos rfl]
     · rw [k3, layB_length]
     · rw [k3]
       exact layB_other (.inl hj)
 · exact ⟨s.D, rfl, hw, rfl, fun _ _ => rfl⟩
theorem getD_same {T U : List (List Int)} {j : Nat} (h : T[j]? = U[j]?) : T.getD j [] = U.getD j [] := by
 rw [List.getD_eq_getElem?_getD, List.getD_eq_getElem?_getD, h]
theorem write_well (h : Good cf s C) {k : Int} {f : PFr} (h0 : 0 ≤ k) (h1 : k < cf.pages) (hf : f.p = C k) :
 ∃ D', s.write cf k f = (0, ⟨D', s.es, stW cf s (C k).lsn, s.H⟩) ∧ D'.well ∧ D'.T.length = s.D.T.length ∧ onD cf D' k (C k) ∧ ∀ (j : Int) p, 0 ≤ j → j < cf.pages → j ≠ k → onD cf s.D j p → onD cf D' j p := by
 obtain ⟨D1, e1, w1, l1, t1⟩ := ahead_well h.well f
 have hsep := h.sep
 have hroom := h.room
 obtain ⟨D2, e2, w2, t2⟩ := two_well (D := D1) (i := (cf.first : Int) + 2 * k) (a := leafA f.p) (b := leafB f.p) w1.dead w1.plan (by omega) (by rw [l1]; omega)
 have ht : ((cf.first : Int) + 2 * k).toNat = cf.first + (2 * k).toNat := by omega
 rw [ht] at t2
 have hl2 : D2.T.length = s.D.T.length := by
  rw [t2, List.length_set, List.length_set, l1]
 refine ⟨D2, ?_, w2, hl2, ?_, fun j p j0 j1 jk hj => ?_⟩
 · unfold PSt.write
   rw [e1]
   dsimp only
   rw [if_neg (by decide), if_neg (by rw [hf, fit_may (h.fit k h0 h1)]; decide), e2]
   rw [hf]
 · unfold onD
   rw [show (2 * k + 1).toNat = (2 * k).toNat + 1 by omega, ← Nat.add_assoc, t2]
   rw [List.getD_eq_getElem?_getD, List.getD_eq_getElem?_getD, List.getElem?_set_ne (by omega), List.getElem?_set_self (by rw [l1]; omega), List.getElem?_set_self (by rw [List.length_set, l1]; omega)]
   rw [hf]
   exact fit_take (h.fit k h0 h1)
 · unfold onD at hj ⊢
   have key : ∀ q : Nat, q < cf.at_ → q ≠ cf.first + (2 * k).toNat → q ≠ cf.first + (2 * k).toNat + 1 → D2.T.getD q [] = s.D.T.getD q [] := fun q q0 q1 q2 => getD_same (by
    rw [t2, List.getElem?_set_ne (Ne.symm q2), List.getElem?_set_ne (Ne.symm q1)]
    exact t1 q q0)
   rw [key _ (by omega) (by omega) (by omega), key _ (by omega) (by omega) (by omega)]
   exact hj
def Last (s : PSt) : Prop := s.st = s.es.length ∨ ∃ k f, s.H.look k = some f ∧ f.dirty = true ∧ f.p.lsn = (s.es.length : Int)
theorem stW_last (h : s.st ≤ s.es.length) (ht : cf.tr = true) : stW cf s (s.es.length : Int) = s.es.length := by
 unfold stW
 split
 · rfl
 · rename_i e
   have : ¬ (s.st : Int) < s.es.length := fun e2 => e ⟨ht, e2⟩
   omega
theorem stW_done (h : s.st = s.es.length) (z : Int) : stW cf s z = s.es.length := by
 unfold stW
 split
 · rfl
 · exact h
theorem lay_well (h : Good cf s C) {k : Int} (h0 : 0 ≤ k) (h1 : k < cf.pages) (hk : s.H.look k = Option.none) :
 ∃ s', s.lay cf k ⟨C k, false, 0⟩ = (0, s') ∧ Good cf s' C ∧ s'.es = s.es ∧ s'.H.l.length = s.H.l.length ∧ s'.H.look k = some ⟨C k, false, 0⟩ ∧ s.st ≤ s'.st ∧ (∀ j, dirtyK s'.H j = dirtyK s.H j ∨ dirtyK s'.H j = Option.none) ∧
  ((∃ x ∈ s.H.l, x.has = false) → ∀ j, dirtyK s'.H j = dirtyK s.H j) ∧ (cf.tr = true → Last s → Last s') := by
 obtain ⟨n1, n2, n3⟩ := put_spec h.nice PFr.void k ⟨C k, false, 0⟩
 have hon := h.none k h0 h1 hk
 rcases n3 with ⟨e, hr, hlook⟩ | ⟨_, hall, k0, v0, hk0, e, hv0, hlook⟩
 · have hd : ∀ j, dirtyK (s.H.put PFr.void k ⟨C k, false, 0⟩).2 j = dirtyK s.H j := fun j => by
    unfold dirtyK
    rw [hlook j]
    by_cases hj : j = k
    · rw [if_pos hj, hj, hk]
      rfl
    · rw [if_neg hj]
   refine ⟨{ s with H := (s.H.put PFr.void k ⟨C k, false, 0⟩).2 }, ?_, ⟨h.well, h.sep, h.room, n1, h.st_le, h.fit, fun j f hf => ?_, fun j j0 j1 hj => ?_⟩, rfl, n2, ?_, Nat.le_refl _, fun j => .inl (hd j), fun _ => hd, fun _ hL => ?_⟩
   · unfold PSt.lay
     rw [e, if_neg (by simp), if_neg (by simp)]
   · have hf' : (s.H.put PFr.void k ⟨C k, false, 0⟩).2.look j = some f := hf
     rw [hlook j] at hf'
     split at hf'
     · rename_i hj
       cases hf'
       subst hj
       exact ⟨h0, h1, rfl, fun _ => hon⟩
     · exact h.key j f hf'
   · have hj' : (s.H.put PFr.void k ⟨C k, false, 0⟩).2.look j = Option.none := hj
     rw [hlook j] at hj'
     split at hj'
     · cases hj'
     · exact h.none j j0 j1 hj'
   · show (s.H.put PFr.void k ⟨C k, false, 0⟩).2.look k = _
     rw [hlook k, if_pos rfl]
   · rcases hL with e | ⟨q, f, q1, q2, q3⟩
     · exact .inl e
     · refine .inr ⟨q, f, ?_, q2, q3⟩
       show (s.H.put PFr.void k ⟨C k, false, 0⟩).2.look q = _
       rw [hlook q, if_neg (fun e => by rw [e, hk] at q1; cases q1)]
       exact q1
 · obtain ⟨a0, a1, a2, a3⟩ := h.key k0 v0 hv0
   have hno : ¬ ∃ x ∈ s.H.l, x.has = false := fun ⟨x, hx, e⟩ => by
    rw [hall x hx] at e
    cases e
   have hdj : ∀ j, dirtyK (s.H.put PFr.void k ⟨C k, false, 0⟩).2 j = dirtyK s.H j ∨ dirtyK (s.H.put PFr.void k ⟨C k, false, 0⟩).2 j = Option.none := fun j => by
    unfold dirtyK
    rw [hlook j]
    by_cases hj : j = k
    · rw [if_pos hj]
      exact .inr rfl
    · rw [if_neg hj]
      by_cases hj0 : j = k0
      · rw [if_pos hj0]
        exact .inr rfl
      · rw [if_neg hj0]
        exact .inl rfl
   have hlk : (s.H.put PFr.void k ⟨C k, false, 0⟩).2.look k = some ⟨C k, false, 0⟩ := by rw [hlook k, if_pos rfl]
   by_cases hd : v0.dirty = true
   · obtain ⟨D', ew, ww, lw, ow, kw⟩ := write_well h a0 a1 a2
     refine ⟨⟨D', s.es, stW cf s (C k0).lsn, (s.H.put PFr.void k ⟨C k, false, 0⟩).2⟩, ?_, ⟨ww, h.sep, by rw [lw]; exact h.room, n1, ?_, h.fit, fun j f hf => ?_, fun j j0 j1 hj => ?_⟩, rfl, n2, hlk, ?_, hdj, fun e => absurd e hno, fun ht hL => ?_⟩
     · unfold PSt.lay
       rw [e]
       dsimp only
       rw [ew, if_neg (by simp), if_pos ⟨rfl, hd⟩]
     · show stW cf s _ ≤ s.es.length
       unfold stW
       split
       · exact Nat.le_refl _
       · exact h.st_le
     · have hf' : (s.H.put PFr.void k ⟨C k, false, 0⟩).2.look j = some f := hf
       rw [hlook j] at hf'
       split at hf'
       · rename_i hj
         cases hf'
         subst hj
         exact ⟨h0, h1, rfl, fun _ => kw j (C j) h0 h1 (fun e => hk0 e.symm) hon⟩
       · rename_i hj
         split at hf'
         · cases hf'
         · rename_i hj0
           obtain ⟨b0, b1, b2, b3⟩ := h.key j f hf'
           exact ⟨b0, b1, b2, fun e => kw j (C j) b0 b1 hj0 (b3 e)⟩
     · have hj' : (s.H.put PFr.void k ⟨C k, false, 0⟩).2.look j = Option.none := hj
       rw [hlook j] at hj'
       split at hj'
       · cases hj'
       · rename_i hjk
         by_cases hj0 : j = k0
         · rw [hj0]
           exact ow
         · rw [if_neg hj0] at hj'
           exact kw j (C j) j0 j1 hj0 (h.none j j0 j1 hj')
     · show s.st ≤ stW cf s _
       unfold stW
       split
       · exact h.st_le
       · exact Nat.le_refl _
     · rcases hL with e | ⟨q, f, q1, q2, q3⟩
       · exact .inl (stW_done e _)
       · by_cases hq : q = k0
         · refine .inl ?_
           show stW cf s (C k0).lsn = s.es.length
           rw [hq, hv0] at q1
           cases q1
           rw [← a2, q3]
           exact stW_last h.st_le ht
         · refine .inr ⟨q, f, ?_, q2, q3⟩
           show (s.H.put PFr.void k ⟨C k, false, 0⟩).2.look q = _
           rw [hlook q, if_neg (fun e => by rw [e, hk] at q1; cases q1), if_neg hq]
           exact q1
   · have hd' : v0.dirty = false := by simpa using hd
     refine ⟨{ s with H := (s.H.put PFr.void k ⟨C k, false, 0⟩).2 }, ?_, ⟨h.well, h.sep, h.room, n1, h.st_le, h.fit, fun j f hf => ?_, fun j j0 j1 hj => ?_⟩, rfl, n2, hlk, Nat.le_refl _, hdj, fun e => absurd e hno, fun _ hL => ?_⟩
     · unfold PSt.lay
       rw [e, if_neg (fun e => hd e.2.1), if_neg (fun e => hd e.2)]
     · have hf' : (s.H.put PFr.void k ⟨C k, false, 0⟩).2.look j = some f := hf
       rw [hlook j] at hf'
       split at hf'
       · rename_i hj
         cases hf'
         subst hj
         exact ⟨h0, h1, rfl, fun _ => hon⟩
       · split at hf'
         · cases hf'
         · exact h.key j f hf'
     · have hj' : (s.H.put PFr.void k ⟨C k, false, 0⟩).2.look j = Option.none := hj
       rw [hlook j] at hj'
       split at hj'
       · cases hj'
       · by_cases hj0 : j = k0
         · rw [hj0]
           exact a3 hd'
         · rw [if_neg hj0] at hj'
           exact h.none j j0 j1 hj'
     · rcases hL with e | ⟨q, f, q1, q2, q3⟩
       · exact .inl e
       · refine .inr ⟨q, f, ?_, q2, q3⟩
         show (s.H.put PFr.void k ⟨C k, false, 0⟩).2.look q = _
         rw [hlook q, if_neg (fun e => by rw [e, hk] at q1; cases q1), if_neg (fun e => by rw [e, hv0] at q1; cases q1; rw [hd'] at q2; cases q2)]
         exact q1
end
end Go.Proofs.YtlcfoeikamkpmaaGreat

namespace Go.Proofs.YtlcfoeikamkpmaaGreat
open Go.Wh

section
variable {cf : PCf} {s : PSt} {C : Int → PPg}
theorem may_in {k : Int} (h0 : 0 ≤ k) (h1 : k < cf.pages) : cf.may k = true := by
 unfold PCf.may
 simp [h0, h1]
theorem pigeon3 (h : Good cf s C) (hp : cf.pages = 3) (hl : s.H.l.length = 3) {k : Int} (h0 : 0 ≤ k) (h1 : k < cf.pages) (hk : s.H.look k = none) : ∃ x ∈ s.H.l, x.has = false := by
 apply Classical.byContradiction
 intro hno
 have hall : ∀ x ∈ s.H.l, x.has = true := fun x hx => by
  cases e : x.has with
  | true => rfl
  | false => exact absurd ⟨x, hx, e⟩ hno
 obtain ⟨x, hx⟩ : ∃ x, s.H.l[0]? = some x := ⟨_, List.getElem?_eq_getElem (by omega)⟩
 obtain ⟨y, hy⟩ : ∃ x, s.H.l[1]? = some x := ⟨_, List.getElem?_eq_getElem (by omega)⟩
 obtain ⟨z, hz⟩ : ∃ x, s.H.l[2]? = some x := ⟨_, List.getElem?_eq_getElem (by omega)⟩
 have key : ∀ {i : Nat} {x : Pl PFr}, s.H.l[i]? = some x → 0 ≤ x.k ∧ x.k < 3 ∧ x.k ≠ k := fun {i x} e => by
  have hl := (look_iff h.nice).2 ⟨i, x, e, hall x (List.mem_of_getElem? e), rfl, rfl⟩
  obtain ⟨a, b, -⟩ := h.key _ _ hl
  refine ⟨a, by omega, fun e2 => ?_⟩
  rw [e2, hk] at hl
  cases hl
 have uni : ∀ {i j : Nat} {x y : Pl PFr}, s.H.l[i]? = some x → s.H.l[j]? = some y → i ≠ j → x.k ≠ y.k := fun {i j x y} e1 e2 hne e => hne (h.nice.uni i j x y e1 e2 (hall x (List.mem_of_getElem? e1)) (hall y (List.mem_of_getElem? e2)) e)
 have kx := key hx
 have ky := key hy
 have kz := key hz
 have u1 := uni hx hy (by decide)
 have u2 := uni hx hz (by decide)
 have u3 := uni hy hz (by decide)
 omega
theorem get_well (h : Good cf s C) {k : Int} (h0 : 0 ≤ k) (h1 : k < cf.pages) :
 ∃ f s', s.get cf k = (0, f, s') ∧ f.p = C k ∧ Good cf s' C ∧ s'.es = s.es ∧ s'.H.l.length = s.H.l.length ∧ s'.H.look k = some f ∧ s.st ≤ s'.st ∧ (∀ j, dirtyK s'.H j = dirtyK s.H j ∨ dirtyK s'.H j = Option.none) ∧ dirtyK s'.H k = dirtyK s.H k ∧
  (cf.pages = 3 → s.H.l.length = 3 → ∀ j, dirtyK s'.H j = dirtyK s.H j) ∧ (cf.tr = true → Last s → Last s') := by
 have hm := may_in (cf := cf) h0 h1
 unfold PSt.get
 rw [if_neg (by rw [hm]; decide)]
 cases hl : s.H.look k with
 | some f =>
  obtain ⟨t1, t2, t3⟩ := touch_spec h.nice k
  obtain ⟨-, -, hf, -⟩ := h.key k f hl
  have hd : ∀ j, dirtyK (s.H.touch k) j = dirtyK s.H j := fun j => by
   unfold dirtyK
   rw [t3 j]
  refine ⟨f, { s with H := s.H.touch k }, rfl, hf, ⟨h.well, h.sep, h.room, t1, h.st_le, h.fit, fun j g hj => h.key j g (by rw [← t3 j]; exact hj), fun j j0 j1 hj => h.none j j0 j1 (by rw [← t3 j]; exact hj)⟩, rfl, t2, by show (s.H.touch k).look k = _; rw [t3 k, hl], Nat.le_refl _, fun j => .inl (hd j), hd k, fun _ _ => hd, fun _ hL => ?_⟩
  rcases hL with e | ⟨q, g, q1, q2, q3⟩
  · exact .inl e
  · exact .inr ⟨q, g, by show (s.H.touch k).look q = _; rw [t3 q, q1], q2, q3⟩
 | none =>
  obtain ⟨s', e, g1, g2, g3, g4, g5, g6, g7, g8⟩ := lay_well h h0 h1 hl
  have hon : takeT (s.tile cf (2 * k)) (s.tile cf (2 * k + 1)) = (0, C k) := h.none k h0 h1 hl
  simp only
  rw [if_neg (by rw [h.well.dead]; decide), hon]
  dsimp only
  rw [if_neg (by decide), e]
  refine ⟨_, s', rfl, rfl, g1, g2, g3, g4, g5, g6, ?_, fun hp hn => g7 (pigeon3 h hp hn h0 h1 hl), g8⟩
  unfold dirtyK
  rw [g4, hl]
  rfl
theorem page_well (h : Good cf s C) {k : Int} (h0 : 0 ≤ k) (h1 : k < cf.pages) :
 ∃ s', s.page cf k = (0, C k, s') ∧ Good cf s' C ∧ s'.es = s.es ∧ s'.H.l.length = s.H.l.length ∧ s.st ≤ s'.st ∧ (∀ j, dirtyK s'.H j = dirtyK s.H j ∨ dirtyK s'.H j = Option.none) ∧ (cf.tr = true → Last s → Last s') := by
 obtain ⟨f, s', e, hf, g1, g2, g3, -, g5, g6, -, -, g7⟩ := get_well h h0 h1
 refine ⟨s', ?_, g1, g2, g3, g5, g6, g7⟩
 unfold PSt.page
 rw [e, if_pos rfl, hf]
def putC (C : Int → PPg) (k : Int) (i : Nat) (b : List Int) (z : Int) : Int → PPg := fun j => if j = k then (C k).set i b z else C j
theorem fit_set {p : PPg} (h : p.fit) {i : Nat} {b : List Int} {z : Int} (hb : b = [] ∨ (b.length = 26 ∧ cellT b = true ∧ nought b = false ∧ Byt b)) (hz : lsnMay z = true) : (p.set i b z).fit := by
 refine ⟨⟨?_, fun l hl => ?_, fun l hl => ?_⟩, hz, fun l hl => ?_⟩
 · show (p.c.set i b).length = 4
   rw [List.length_set, h.ok.four]
 · rcases List.mem_or_eq_of_mem_set hl with e | e
   · exact h.ok.each l e
   · rw [e]
     exact hb.imp id fun e => e.1
 · rcases List.mem_or_eq_of_mem_set hl with e | e
   · exact h.ok.byt l e
   · rw [e]
     rcases hb with e2 | e2
     · rw [e2]
       intro z hz
       cases hz
     · exact e2.2.2.2
 · rcases List.mem_or_eq_of_mem_set hl with e | e
   · exact h.cell l e
   · rw [e]
     exact hb.imp id fun e => ⟨e.2.1, e.2.2.1⟩
theorem set_well (h : Good cf s C) {k i : Int} (h0 : 0 ≤ k) (h1 : k < cf.pages) (i0 : 0 ≤ i) (i4 : i < 4) {b : List Int} {z : Int} (hb : b = [] ∨ (b.length = 26 ∧ cellT b = true ∧ nought b = false ∧ Byt b)) (hz : lsnMay z = true) (hlt : (C k).lsn < z) :
 ∃ s', s.set cf k i b z = (0, s') ∧ Good cf s' (putC C k i.toNat b z) ∧ s'.es = s.es ∧ s'.H.l.length = s.H.l.length ∧ s.st ≤ s'.st ∧
  dirtyK s'.H k = some ⟨k, match dirtyK s.H k with | some x => x.r | none => z⟩ ∧ (∀ j, j ≠ k → dirtyK s'.H j = dirtyK s.H j ∨ dirtyK s'.H j = Option.none) ∧
  (cf.pages = 3 → s.H.l.length = 3 → ∀ j, j ≠ k → dirtyK s'.H j = dirtyK s.H j) ∧ (z = (s.es.length : Int) → Last s') := by
 obtain ⟨f, s1, e, hf, g1, g2, g3, g4, g5, g6, g7, g8, -⟩ := get_well h h0 h1
 unfold PSt.set
 rw [e]
 dsimp only
 rw [if_neg (by decide), if_neg (by
  rintro (h | h | h)
  · omega
  · omega
  · rcases hb with e | e
    · rw [e] at h
      exact h.1 rfl
    · exact h.2 e.1), if_neg (by rw [hf]; omega)]
 obtain ⟨p1, p2, p3⟩ := put_spec g1.nice PFr.void k ⟨f.p.set i.toNat b z, true, if f.dirty = true then f.rec_ else z⟩
 have hlook : ∀ j, (s1.H.put PFr.void k ⟨f.p.set i.toNat b z, true, if f.dirty = true then f.rec_ else z⟩).2.look j = if j = k then some ⟨f.p.set i.toNat b z, true, if f.dirty = true then f.rec_ else z⟩ else s1.H.look j := by
  rcases p3 with ⟨-, -, hq⟩ | ⟨hq, -⟩
  · exact hq
  · rw [g4] at hq
    cases hq
 refine ⟨_, rfl, ⟨g1.well, g1.sep, g1.room, p1, g1.st_le, fun j j0 j1 => ?_, fun j g hj => ?_, fun j j0 j1 hj => ?_⟩, g2, by show (s1.H.put _ _ _).2.l.length = _; rw [p2, g3], g5, ?_, fun j hj => ?_, fun a1 a2 j hj => ?_, fun hz2 => ?_⟩
 · unfold putC
   split
   · rename_i hj
     exact fit_set (h.fit k h0 h1) hb hz
   · exact h.fit j j0 j1
 · have hj' : (s1.H.put PFr.void k ⟨f.p.set i.toNat b z, true, if f.dirty = true then f.rec_ else z⟩).2.look j = some g := hj
   rw [hlook j] at hj'
   unfold putC
   split at hj'
   · rename_i e2
     cases hj'
     rw [if_pos e2, ← hf, e2]
     exact ⟨h0, h1, rfl, fun e => by cases e⟩
   · rename_i e2
     rw [if_neg e2]
     exact g1.key j g hj'
 · have hj' : (s1.H.put PFr.void k ⟨f.p.set i.toNat b z, true, if f.dirty = true then f.rec_ else z⟩).2.look j = Option.none := hj
   rw [hlook j] at hj'
   unfold putC
   split at hj'
   · cases hj'
   · rename_i e2
     rw [if_neg e2]
     exact g1.none j j0 j1 hj'
 · rw [← g7]
   unfold dirtyK
   show (match (s1.H.put PFr.void k ⟨f.p.set i.toNat b z, true, if f.dirty = true then f.rec_ else z⟩).2.look k with | some f => if f.dirty = true then some (⟨k, f.rec_⟩ : Drt) else none | none => none) = _
   rw [hlook k, if_pos rfl, g4]
   dsimp only
   rw [if_pos rfl]
   by_cases hd : f.dirty = true
   · rw [if_pos hd, if_pos hd]
   · rw [if_neg hd, if_neg hd]
 · have : dirtyK (s1.H.put PFr.void k ⟨f.p.set i.toNat b z, true, if f.dirty = true then f.rec_ else z⟩).2 j = dirtyK s1.H j := by
    unfold dirtyK
    rw [hlook j, if_neg hj]
   show dirtyK (s1.H.put PFr.void k _).2 j = _ ∨ dirtyK (s1.H.put PFr.void k _).2 j = _
   rw [this]
   exact g6 j
 · have : dirtyK (s1.H.put PFr.void k ⟨f.p.set i.toNat b z, true, if f.dirty = true then f.rec_ else z⟩).2 j = dirtyK s1.H j := by
    unfold dirtyK
    rw [hlook j, if_neg hj]
   show dirtyK (s1.H.put PFr.void k _).2 j = _
   rw [this]
   exact g8 a1 a2 j
 · refine .inr ⟨k, _, (hlook k).trans (if_pos rfl), rfl, ?_⟩
   show z = (s1.es.length : Int)
   rw [g2]
   exact hz2
theorem flush_well (h : Good cf s C) {k : Int} (h0 : 0 ≤ k) (h1 : k < cf.pages) :
 ∃ s', s.flush cf k = (0, s') ∧ Good cf s' C ∧ s'.es = s.es ∧ s'.H.l.length = s.H.l.length ∧ s.st ≤ s'.st ∧ dirtyK s'.H k = Option.none ∧ (∀ j, j ≠ k → dirtyK s'.H j = dirtyK s.H j) ∧ (cf.tr = true → Last s → Last s') := by
 have hm := may_in (cf := cf) h0 h1
 unfold PSt.flush
 rw [if_neg (by rw [hm]; decide)]
 cases hl : s.H.look k with
 | none => exact ⟨s, rfl, h, rfl, rfl, Nat.le_refl _, by unfold dirtyK; rw [hl], fun _ _ => rfl, fun _ e => e⟩
 | some f =>
  obtain ⟨-, -, hf, -⟩ := h.key k f hl
  simp only
  by_cases hd : f.dirty = false
  · rw [if_pos hd]
    exact ⟨s, rfl, h, rfl, rfl, Nat.le_refl _, by unfold dirtyK; rw [hl]; simp [hd], fun _ _ => rfl, fun _ e => e⟩
  · rw [if_neg hd]
    obtain ⟨D', ew, ww, lw, ow, kw⟩ := write_well h h0 h1 hf
    rw [ew]
    dsimp only
    rw [if_neg (by decide)]
    obtain ⟨t1, t2, t3⟩ := swap_spec h.nice k { f with dirty := false }
    have hlk : ∀ j, (s.H.swap k { f with dirty := false }).look j = if j = k then some { f with dirty := false } else s.H.look j := fun j => by
     rw [t3 j, hl]
     simp
    refine ⟨⟨D', s.es, stW cf s (C k).lsn, s.H.swap k { f with dirty := false }⟩, rfl, ⟨ww, h.sep, by rw [lw]; exact h.room, t1, ?_, h.fit, fun j g hj => ?_, fun j j0 j1 hj => ?_⟩, rfl, t2, ?_, ?_, fun j hj => ?_, fun ht hL => ?_⟩
    · show stW cf s _ ≤ s.es.length
      unfold stW
      split
      · exact Nat.le_refl _
      · exact h.st_le
    · have hj' : (s.H.swap k { f with dirty := false }).look j = some g := hj
      rw [hlk j] at hj'
      split at hj'
      · rename_i e2
        cases hj'
        rw [e2]
        exact ⟨h0, h1, hf, fun _ => ow⟩
      · rename_i e2
        obtain ⟨b0, b1, b2, b3⟩ := h.key j g hj'
        exact ⟨b0, b1, b2, fun e => kw j (C j) b0 b1 e2 (b3 e)⟩
    · have hj' : (s.H.swap k { f with dirty := false }).look j = Option.none := hj
      rw [hlk j] at hj'
      split at hj'
      · cases hj'
      · rename_i e2
        exact kw j (C j) j0 j1 e2 (h.none j j0 j1 hj')
    · show s.st ≤ stW cf s _
      unfold stW
      split
      · exact h.st_le
      · exact Nat.le_refl _
    · show dirtyK (s.H.swap k { f with dirty := false }) k = _
      unfold dirtyK
      rw [hlk k, if_pos rfl]
      simp
    · show dirtyK (s.H.swap k { f with dirty := false }) j = _
      unfold dirtyK
      rw [hlk j, if_neg hj]
    · rcases hL with e | ⟨q, g, q1, q2, q3⟩
      · exact .inl (stW_done e _)
      · by_cases hq : q = k
        · refine .inl ?_
          show stW cf s (C k).lsn = s.es.length
          rw [hq, hl] at q1
          cases q1
          rw [← hf, q3]
          exact stW_last h.st_le ht
        · refine .inr ⟨q, g, ?_, q2, q3⟩
          show (s.H.swap k { f with dirty := false }).look q = _
          rw [hlk q, if_neg hq]
          exact q1
theorem append_well (h : Good cf s C) (p : PE) : Good cf { s with es := s.es ++ [p] } C :=
 ⟨h.well, h.sep, h.room, h.nice, by show s.st ≤ (s.es ++ [p]).length; rw [List.length_append]; have := h.st_le; omega, h.fit, h.key, h.none⟩
end
theorem new_well {m n : Nat} {cf : PCf} (hsep : cf.first + 2 * cf.pages ≤ cf.at_) (hr : cf.at_ + cf.n ≤ m) (hn : 0 < n) : Good cf ⟨newD m, [], 0, mkHd PFr.void n⟩ (fun _ => PPg.void) := by
 obtain ⟨h1, h2⟩ := mk_nice PFr.void hn
 refine ⟨⟨rfl, rfl, rfl⟩, hsep, by rw [newD_len]; exact hr, h1, Nat.le_refl _, fun _ _ _ => fit_void, fun k f hf => ?_, fun k k0 k1 _ => ?_⟩
 · rw [h2 k] at hf
   cases hf
 · unfold onD
   have key : ∀ j : Nat, j < m → (newD m).T.getD j [] = List.replicate 64 0 := fun j hj => by
    unfold newD zeroT
    rw [List.getD_eq_getElem?_getD, List.getElem?_replicate, if_pos hj]
    rfl
   show takeT ((newD m).T.getD _ []) ((newD m).T.getD _ []) = _
   rw [key _ (by omega), key _ (by omega)]
   exact takeT_zero
end Go.Proofs.YtlcfoeikamkpmaaGreat

namespace Go.Proofs.YtlcfoeikamkpmaaGreat
open Go.RowKit Go.Wh Go.Maps

structure PX (W : World) (c : Nat → Nat) (a b m r : Nat) (w : World) (pb d : Nat) (t : Option Nat) (cf : PCf) (s : PSt) : Prop where
 lg : Lg W c w
 dt : Dt c a b w d t cf s
 po : PoAt c m r w pb d t cf s.H
section
variable {W : World} {c c' : Nat → Nat} {a b m r : Nat} {w w' : World} {pb d : Nat} {t : Option Nat} {cf : PCf} {s : PSt} {X K : Nat → Prop}
theorem PX.keep (h : PX W c a b m r w pb d t cf s) (hf : Dif a b m r) (hs : Stp X K c c' w w') (x0 : ¬ X 0) (xa : ¬ X a) (xb : ¬ X b) (xm : ¬ X m) (xr : ¬ X r) (ka : ¬ K a) (kb : ¬ K b) (kr : ¬ K r) : PX W c' a b m r w' pb d t cf s :=
 ⟨h.lg.step hs x0, h.dt.keep hs xa xb ka kb hf.a0 hf.b0, h.po.keep h.lg.low hs xm xr kr hf.m0 hf.r0⟩
theorem PX.calm (h : PX W c a b m r w pb d t cf s) (hf : Dif a b m r) (hs : Still w w') : PX W c a b m r w' pb d t cf s :=
 ⟨h.lg.calm hs, h.dt.still hs hf.a0 hf.b0, h.po.still h.lg.low hs hf.m0 hf.r0⟩
theorem PX.own (h : PX W c a b m r w pb d t cf s) (hf : Dif a b m r) {g : Nat} (ho : Only (fun x => x = g) w w') (hg : c g = 0) (hw : W.heap.size ≤ g) : PX W c a b m r w' pb d t cf s := by
 have hsc : Stp (fun i => i = 0) (fun _ => False) c c w w' := Stp.owns h.lg.low (ho.mono fun x e => by
  have e' : x = g := e
  show c x = 0
  rw [e']
  exact hg)
 exact ⟨⟨h.lg.still.andThen ho fun x hx e => by have e' : x = g := e; omega, h.lg.hi, hsc.low⟩, h.dt.keep hsc hf.a0 hf.b0 (fun e => e) (fun e => e) hf.a0 hf.b0, h.po.keep h.lg.low hsc hf.m0 hf.r0 (fun e => e) hf.m0 hf.r0⟩
def PxPost (W : World) (c : Nat → Nat) (a b m r : Nat) (w : World) (pb d : Nat) (t : Option Nat) (cf : PCf) (v : Value) (s' : PSt) (e : Ending) (w' : World) : Prop :=
 e = .returned v ∧ ∃ c', Stp (fun i => i = a ∨ i = b ∨ i = m) (fun i => i = a ∨ i = b ∨ i = m ∨ i = r) c c' w w' ∧ PX W c' a b m r w' pb d t cf s'
theorem px_of {v : Value} {s' : PSt} (h : PX W c a b m r w pb d t cf s) (hf : Dif a b m r) {e : Ending} (hp : PoPost c a b m r w pb d t cf v s' e w') : PxPost W c a b m r w pb d t cf v s' e w' := by
 obtain ⟨rfl, c', hs, hd, hp⟩ := hp
 refine ⟨rfl, c', hs.mono (fun _ e => e) fun i e => by rcases e with e | e | e <;> simp [e], h.lg.step hs (fun e => by rcases e with e | e | e; exact hf.a0 e.symm; exact hf.b0 e.symm; exact hf.m0 e.symm), hd, hp⟩
theorem px_set (h : PX W c a b m r w pb d t cf s) (hf : Dif a b m r) (i k : Int) {R : Nat → Prop} {x : Value} {bl : List Int} (hx : Sl w R 1 x bl.length (bc bl)) (hR : ∀ g, R g → c g = 0) (hbb : Byt bl) (y : Int) {E : Int} {s' : PSt} (he : s.set cf i k bl y = (E, s')) :
 Calls Tryz.prog 17 #[.pointer (some ⟨pb, 0, none⟩), .int .i64 i, .int .i64 k, x, .int .i64 y] w (PxPost W c a b m r w pb d t cf (.int .i64 E) s') := by
 refine (pset_any h.dt hf h.po i k hx hR hbb y).mono fun e w' hp => ?_
 rw [he] at hp
 exact px_of h hf hp
theorem px_flush (h : PX W c a b m r w pb d t cf s) (hf : Dif a b m r) (k : Int) {E : Int} {s' : PSt} (he : s.flush cf k = (E, s')) :
 Calls Tryz.prog 21 #[.pointer (some ⟨pb, 0, none⟩), .int .i64 k] w (PxPost W c a b m r w pb d t cf (.int .i64 E) s') := by
 refine (pflush_any h.dt hf h.po k).mono fun e w' hp => ?_
 rw [he] at hp
 exact px_of h hf hp
theorem px_append {t' : Nat} (h : PX W c a b m r w pb d (some t') cf s) (hf : Dif a b m r) {k x : Int} (hm : (nE k x).may = true) (hr : (streamB s.es).length + 25 ≤ cf.n * 63) :
 Calls Tryz.prog 24 #[.pointer (some ⟨t', 0, none⟩), .agg #[.int .i64 k, .int .i64 x, .int .i64 0, .int .i64 0, .int .i64 0, .int .i64 0, .int .i64 0, .int .i64 0, .int .i64 0, .int .i64 0, .slice none 0 0, .slice none 0 0, .slice none 0 0, .slice none 0 0, .slice none 0 0, .slice none 0 0]] w
  (PxPost W c a b m r w pb d (some t') cf (.tuple #[.int .i64 ((s.es.length + 1 : Nat) : Int), .int .i64 0]) { s with es := s.es ++ [nE k x] }) := by
 refine (dt_append h.dt hf.a0 hf.b0 hf.ab hm hr).mono fun e w' hp => ?_
 obtain ⟨rfl, c', hs, hd⟩ := hp
 have hs' : Stp (fun i => i = a ∨ i = b ∨ i = m) (fun i => i = a ∨ i = b ∨ i = m ∨ i = r) c c' w w' := hs.mono (fun i e => .inr (.inl e)) fun i e => .inr (.inl e)
 refine ⟨rfl, c', hs', h.lg.step hs fun e => hf.b0 e.symm, hd, ?_⟩
 exact h.po.keep h.lg.low hs (fun e => hf.bm e.symm) (fun e => hf.br e.symm) (fun e => hf.br e.symm) hf.m0 hf.r0
theorem px_dirty (h : PX W c a b m r w pb d t cf s) (hf : Dif a b m r) (h12 : s.H.l.length ≤ 12) :
 Calls Tryz.prog 19 #[.pointer (some ⟨pb, 0, none⟩)] w (DyPost w s.H) := pdirty_any h.po h.lg.low hf.m0 hf.r0 h12
end
def letS (z : Int) : ByteArray := strOfNums [97 + z % 26]
theorem letR (z : Int) : rowB (letS z) ⟨#[]⟩ ⟨#[]⟩ = rowC (97 + z % 26) [] [] := by
 have h1 : txt (letS z) = [97 + z % 26] := txt_str (l := [97 + z % 26]) (fun x hx => by
  rw [List.mem_singleton.1 hx]
  omega)
 have h2 : (letS z).size = 1 := str_size [97 + z % 26]
 unfold rowB rowC padB padT
 rw [h1, h2]
 rfl
theorem let_ok (z : Int) : (rowC (97 + z % 26) [] []).length = 26 ∧ cellT (rowC (97 + z % 26) [] []) = true ∧ nought (rowC (97 + z % 26) [] []) = false ∧ Byt (rowC (97 + z % 26) [] []) := by
 obtain ⟨n, hn⟩ : ∃ n : Nat, z % 26 = (n : Int) := ⟨(z % 26).toNat, by omega⟩
 rw [hn]
 have hlt : n < 26 := by omega
 refine ⟨rfl, rowC_cell n (List.mem_range.2 hlt), rfl, ?_⟩
 have key : ∀ n ∈ List.range 26, (rowC (97 + (n : Int)) [] []).all (fun x => decide (0 ≤ x) && decide (x ≤ 255)) = true := by decide
 intro x hx
 have := List.all_eq_true.1 (key n (List.mem_range.2 hlt)) x hx
 simp only [Bool.and_eq_true, decide_eq_true_eq] at this
 omega
theorem stream_nE {es : List PE} {n : Nat} (h : (streamB es).length = n * 25) (k x : Int) : (streamB (es ++ [nE k x])).length = (n + 1) * 25 := by
 rw [streamB_append, streamB_one, List.length_append, h, nE_len]
 omega
theorem conv_at {w : World} {g : Nat} {x : Int} (h : w.cell? ⟨g, 0, none⟩ = some (.int .u8 x)) : (convert 22 9 (.slice (some ⟨g, 0, none⟩) 1 1)).run Tryz.prog w = .ok (.string (strOfNums [x])) w :=
 run_convert_bytes_arg _ 22 5 Tryz.underlying22 Tryz.underlying5 g 0 1 1 [x] rfl (fun i hi => by
  have : i = 0 := by omega
  subst this
  rw [Nat.zero_add, h]
  rfl) 9 Tryz.underlying9
end Go.Proofs.YtlcfoeikamkpmaaGreat

namespace Go.Proofs.YtlcfoeikamkpmaaGreat
open Go.Wh

def cfR : PCf := ⟨0, 3, 8, 32, true⟩
def recOf (H : Hd PFr) (k : Int) : Int := match dirtyK H k with
 | some x => x.r
 | none => 0
structure RecS (s : PSt) (C : Int → PPg) (n i : Nat) (rs : List Int) : Prop where
 good : Good cfR s C
 l3 : s.H.l.length = 3
 es : s.es.length = n
 str : (streamB s.es).length = n * 25
 lsn : ∀ k, (C k).lsn ≤ i
 r3 : rs.length = 3
 rc : ∀ k : Nat, k < 3 → rs[k]? = some (recOf s.H k)
 ri : ∀ k x, dirtyK s.H k = some x → 0 < x.r ∧ x.r ≤ i
section
variable {s : PSt} {C : Int → PPg} {n i : Nat} {rs : List Int}
theorem rec_new : RecS ⟨newD 40, [], 0, mkHd PFr.void 3⟩ (fun _ => PPg.void) 0 0 [0, 0, 0] := by
 obtain ⟨h1, h2⟩ := mk_nice PFr.void (n := 3) (by decide)
 have hd : ∀ k, dirtyK (mkHd PFr.void 3) k = none := fun k => by
  unfold dirtyK
  rw [h2 k]
 refine ⟨new_well (by decide) (by decide) (by decide), rfl, rfl, rfl, fun _ => Int.le_refl 0, rfl, fun k hk => ?_, fun k x e => ?_⟩
 · unfold recOf
   rw [hd]
   rcases (show k = 0 ∨ k = 1 ∨ k = 2 from by omega) with rfl | rfl | rfl <;> rfl
 · rw [hd] at e
   cases e
theorem rec_app (h : RecS s C n i rs) (k x : Int) : RecS { s with es := s.es ++ [nE k x] } C (n + 1) i rs :=
 ⟨append_well h.good _, h.l3, by show (s.es ++ [nE k x]).length = _; rw [List.length_append, h.es]; rfl, stream_nE h.str k x, h.lsn, h.r3, h.rc, h.ri⟩
theorem rec_get (h : RecS s C n i rs) {k : Nat} (hk : k < 3) : ∃ v, rs[k]? = some v ∧ 0 ≤ v ∧ v ≤ i ∧ ((v = 0 ∧ dirtyK s.H k = none) ∨ (v ≠ 0 ∧ dirtyK s.H k = some ⟨k, v⟩)) := by
 refine ⟨_, h.rc k hk, ?_⟩
 unfold recOf
 cases e : dirtyK s.H k with
 | none => exact ⟨Int.le_refl 0, (by show (0 : Int) ≤ (i : Int); omega), .inl ⟨rfl, rfl⟩⟩
 | some x =>
  have h1 := h.ri k x e
  have h2 := (dirtyK_some.1 e).1
  obtain ⟨p, r⟩ := x
  dsimp only at h1 h2 ⊢
  exact ⟨by omega, h1.2, .inr ⟨by omega, by rw [h2]⟩⟩
theorem rec_set (h : RecS s C n i rs) {k : Nat} (hk : k < 3) {j : Int} (j0 : 0 ≤ j) (j4 : j < 4) (z : Int) (hi : i < 1000) {v : Int} (hv : rs[k]? = some v) :
 ∃ s' C', s.set cfR k j (rowC (97 + z % 26) [] []) ((i : Int) + 1) = (0, s') ∧ RecS s' C' n (i + 1) (if v = 0 then rs.set k ((i : Int) + 1) else rs) := by
 have hz : lsnMay ((i : Int) + 1) = true := by
  unfold lsnMay
  simp only [Bool.and_eq_true, decide_eq_true_eq]
  omega
 obtain ⟨l1, l2, l3, l4⟩ := let_ok z
 obtain ⟨s', e, g1, g2, g3, g4, g5, -, g7, -⟩ := set_well h.good (k := (k : Int)) (by omega) (by show (k : Int) < ((3 : Nat) : Int); omega) j0 j4 (b := rowC (97 + z % 26) [] []) (z := (i : Int) + 1) (.inr ⟨l1, l2, l3, l4⟩) hz (by have := h.lsn k; omega)
 obtain ⟨v', hv', v0, v1, hvd⟩ := rec_get h hk
 rw [hv] at hv'
 cases hv'
 have hoth : ∀ q : Int, q ≠ k → dirtyK s'.H q = dirtyK s.H q := fun q hq => g7 rfl h.l3 q hq
 refine ⟨s', _, e, ⟨g1, by rw [g3, h.l3], by rw [g2, h.es], by rw [g2, h.str], fun q => ?_, ?_, fun q hq => ?_, fun q x hx => ?_⟩⟩
 · unfold putC
   split
   · show (i : Int) + 1 ≤ ((i + 1 : Nat) : Int)
     omega
   · have := h.lsn q
     omega
 · split
   · rw [List.length_set, h.r3]
   · exact h.r3
 · by_cases hqk : q = k
   · subst hqk
     have e5 : recOf s'.H q = if v = 0 then (i : Int) + 1 else v := by
      unfold recOf
      rw [g5]
      rcases hvd with ⟨e1, e2⟩ | ⟨e1, e2⟩
      · rw [e2, if_pos e1]
      · rw [e2, if_neg e1]
     rw [e5]
     by_cases hv0 : v = 0
     · rw [if_pos hv0, if_pos hv0, List.getElem?_set_self (by rw [h.r3]; exact hk)]
     · rw [if_neg hv0, if_neg hv0, hv]
   · have e6 : recOf s'.H q = recOf s.H q := by
      unfold recOf
      rw [hoth q (by omega)]
     rw [e6]
     split
     · rw [List.getElem?_set_ne (fun e => hqk e.symm)]
       exact h.rc q hq
     · exact h.rc q hq
 · by_cases hqk : q = k
   · subst hqk
     rw [g5] at hx
     cases hx
     rcases hvd with ⟨e1, e2⟩ | ⟨e1, e2⟩
     · rw [e2]
       dsimp only
       omega
     · rw [e2]
       dsimp only
       omega
   · rw [hoth q hqk] at hx
     have := h.ri q x hx
     omega
theorem rec_flush (h : RecS s C n i rs) {k : Nat} (hk : k < 3) : ∃ s', s.flush cfR k = (0, s') ∧ RecS s' C n i (rs.set k 0) := by
 obtain ⟨s', e, g1, g2, g3, g4, g5, g6, -⟩ := flush_well h.good (k := (k : Int)) (by omega) (by show (k : Int) < ((3 : Nat) : Int); omega)
 refine ⟨s', e, ⟨g1, by rw [g3, h.l3], by rw [g2, h.es], by rw [g2, h.str], h.lsn, by rw [List.length_set, h.r3], fun q hq => ?_, fun q x hx => ?_⟩⟩
 · by_cases hqk : q = k
   · subst hqk
     rw [List.getElem?_set_self (by rw [h.r3]; exact hk)]
     unfold recOf
     rw [g5]
   · rw [List.getElem?_set_ne (fun e => hqk e.symm), h.rc q hq]
     unfold recOf
     rw [g6 q (by omega)]
 · by_cases hqk : q = k
   · rw [hqk, g5] at hx
     cases hx
   · rw [g6 q hqk] at hx
     exact h.ri q x hx
def Ek (rs : List Int) : Nat → List Drt
 | 0 => []
 | k + 1 => if rs.getD k 0 = 0 then Ek rs k else Ek rs k ++ [⟨k, rs.getD k 0⟩]
theorem ek_mem {x : Drt} : ∀ {k : Nat}, x ∈ Ek rs k ↔ ∃ q : Nat, q < k ∧ rs.getD q 0 ≠ 0 ∧ x = ⟨q, rs.getD q 0⟩
 | 0 => by
  constructor
  · intro h; cases h
  · rintro ⟨q, h, -⟩; omega
 | k + 1 => by
  unfold Ek
  split
  · rename_i h0
    rw [ek_mem]
    constructor
    · rintro ⟨q, a, b, c⟩
      exact ⟨q, by omega, b, c⟩
    · rintro ⟨q, a, b, c⟩
      refine ⟨q, ?_, b, c⟩
      have : q ≠ k := fun e => by
       rw [e] at b
       exact b h0
      omega
  · rename_i h0
    rw [List.mem_append, ek_mem, List.mem_singleton]
    constructor
    · rintro (⟨q, a, b, c⟩ | rfl)
      · exact ⟨q, by omega, b, c⟩
      · exact ⟨k, by omega, h0, rfl⟩
    · rintro ⟨q, a, b, c⟩
      by_cases e : q = k
      · exact .inr (by rw [c, e])
      · exact .inl ⟨q, by omega, b, c⟩
theorem ek_sorted : ∀ {k : Nat}, (Ek rs k).Pairwise fun a b => a.p < b.p
 | 0 => List.Pairwise.nil
 | k + 1 => by
  unfold Ek
  split
  · exact ek_sorted
  · refine List.pairwise_append.2 ⟨ek_sorted, by simp, fun a ha b hb => ?_⟩
    obtain ⟨q, h1, -, rfl⟩ := ek_mem.1 ha
    rw [List.mem_singleton.1 hb]
    show (q : Int) < (k : Int)
    omega
theorem ek_more {k : Nat} : ∀ (j : Nat), ∃ R, Ek rs (k + j) = Ek rs k ++ R
 | 0 => ⟨[], by simp⟩
 | j + 1 => by
  obtain ⟨R, hR⟩ := ek_more (k := k) j
  rw [← Nat.add_assoc]
  show ∃ R', (if rs.getD (k + j) 0 = 0 then Ek rs (k + j) else Ek rs (k + j) ++ [⟨((k + j : Nat) : Int), rs.getD (k + j) 0⟩]) = Ek rs k ++ R'
  split
  · exact ⟨R, hR⟩
  · exact ⟨R ++ [⟨((k + j : Nat) : Int), rs.getD (k + j) 0⟩], by rw [hR, List.append_assoc]⟩
theorem ek_at {k : Nat} (hk : k < 3) (h0 : rs.getD k 0 ≠ 0) : (Ek rs 3)[(Ek rs k).length]? = some ⟨k, rs.getD k 0⟩ ∧ (Ek rs k).length < (Ek rs 3).length := by
 obtain ⟨R, hR⟩ := ek_more (rs := rs) (k := k + 1) (2 - k)
 rw [show k + 1 + (2 - k) = 3 by omega] at hR
 have hn : Ek rs (k + 1) = Ek rs k ++ [⟨k, rs.getD k 0⟩] := by
  show (if rs.getD k 0 = 0 then Ek rs k else _) = _
  rw [if_neg h0]
 rw [hR, hn]
 refine ⟨by simp, by simp⟩
theorem ek_le {k : Nat} : (Ek rs k).length ≤ k := by
 induction k with
 | zero => exact Nat.le_refl _
 | succ k ih =>
  unfold Ek
  split
  · omega
  · rw [List.length_append]
    simp
    omega
theorem rec_dirty (h : RecS s C n i rs) {M : List Drt} (hM : M.Perm (dirtyD s.H)) (hS : DSorted M) : M = Ek rs 3 := by
 refine dirty_is h.good.nice hM hS ek_sorted fun x => ?_
 rw [ek_mem]
 have hgd : ∀ q : Nat, q < 3 → rs.getD q 0 = recOf s.H q := fun q hq => by
  rw [List.getD_eq_getElem?_getD, h.rc q hq]
  rfl
 constructor
 · rintro ⟨q, hq, h0, rfl⟩
   obtain ⟨v, hv, -, -, hd⟩ := rec_get h hq
   have e : rs.getD q 0 = v := by rw [List.getD_eq_getElem?_getD, hv]; rfl
   rw [e] at h0 ⊢
   rcases hd with ⟨e1, -⟩ | ⟨-, e2⟩
   · exact absurd e1 h0
   · obtain ⟨-, f, f1, f2, f3⟩ := dirtyK_some.1 e2
     exact ⟨f, f1, f2, f3⟩
 · rintro ⟨f, f1, f2, f3⟩
   obtain ⟨b0, b1, -, -⟩ := h.good.key x.p f f1
   have b1' : x.p < 3 := b1
   obtain ⟨q, hq⟩ : ∃ q : Nat, x.p = (q : Int) := ⟨x.p.toNat, by omega⟩
   have hq3 : q < 3 := by omega
   have hd : dirtyK s.H (q : Int) = some x := dirtyK_some.2 ⟨hq, f, by rw [← hq]; exact f1, f2, f3⟩
   obtain ⟨v, hv, -, -, hvd⟩ := rec_get h hq3
   have e : rs.getD q 0 = v := by rw [List.getD_eq_getElem?_getD, hv]; rfl
   rw [hd] at hvd
   rcases hvd with ⟨-, e2⟩ | ⟨e1, e2⟩
   · cases e2
   · refine ⟨q, hq3, by rw [e]; exact e1, ?_⟩
     rw [e]
     exact Option.some.inj e2
end
end Go.Proofs.YtlcfoeikamkpmaaGreat

namespace Go.Proofs.YtlcfoeikamkpmaaGreat
open Go.RowKit Go.Wh Go.Maps

def RecRel (W : World) (d t pb bb : Nat) (i : Nat) (wr : World) : Prop :=
 ∃ c s C rs, PX W c 1 2 3 4 wr pb d (some t) cfR s ∧ RecS s C i i rs ∧ cellsAt wr bb (rs.map (.int .i64 ·)) ∧ c bb = 0 ∧ W.heap.size ≤ bb
def RecMid (W : World) (d t pb bb : Nat) (i : Nat) (wr : World) (rs : List Int) : Prop :=
 ∃ c s C, PX W c 1 2 3 4 wr pb d (some t) cfR s ∧ RecS s C (i + 1) (i + 1) rs ∧ cellsAt wr bb (rs.map (.int .i64 ·)) ∧ c bb = 0 ∧ W.heap.size ≤ bb
def RecEnd (W : World) (d t pb bb : Nat) (i : Nat) (wr : World) : Prop := RecRel W d t pb bb (i + 1) wr
theorem three_rows {w : World} {g : Nat} {rs : List Int} (h : cellsAt w g (rs.map (.int .i64 ·))) {k : Nat} {v : Int} (hv : rs[k]? = some v) : w.cell? ⟨g, k, none⟩ = some (.int .i64 v) := by
 rw [h.cell k, List.getElem?_map, hv]
 rfl
theorem three_set {w : World} {g : Nat} {rs : List Int} (h : cellsAt w g (rs.map (.int .i64 ·))) (k : Nat) (v : Int) : cellsAt (w.setCell ⟨g, k, none⟩ (.int .i64 v)) g ((rs.set k v).map (.int .i64 ·)) := by
 have := h.setCell k (.int .i64 v)
 rw [List.map_set]
 exact this
set_option maxHeartbeats 16000000 in
set_option maxRecDepth 100000 in
theorem rec_walk (W : World) (Q : Nat → Prop) (xa : Option Addr) (m xc : Nat) (L : List Int) (fz : Int) (hl : L.length = m ∧ (0 < m → Sl W Q 1 (.slice xa m xc) m (bc L)) ∧ Byt L) :
 Calls Tryz.prog 6 #[.slice xa m xc, .int .u32 fz] W (BTrue W) := by
 have HBG := Lib.hid (begun_any W)
 have HL := Lib.hid hl
 clear hl
 by_cases hbad : 20 < m
 · have b1 : decide ((20 : Int) < (m : Int)) = true := decide_eq_true (by omega)
   have b2 : decide (20 < m) = true := decide_eq_true hbad
   clear hbad
   go_enter Tryz.func6, Tryz.ntmps6
   go_wp2_with fail
   refine HBG.out.mono ?_
   rintro en w1 ⟨rfl, hs1⟩
   have F := Lib.hid (show BTrue W (.returned (.bool true)) w1 from ⟨rfl, hs1⟩)
   clear hs1 HBG
   go_wp2_with fail
   go_ret
   exact F.out
 have b1 : decide ((20 : Int) < (m : Int)) = false := decide_eq_false (by omega)
 have b2 : decide (20 < m) = false := decide_eq_false hbad
 have HM := Lib.hid (show m ≤ 20 from by omega)
 clear hbad
 go_enter Tryz.func6, Tryz.ntmps6
 go_wp2_with fail
 refine HBG.out.mono ?_
 rintro en w1 ⟨rfl, hs1⟩
 have L1 := Lg.start hs1
 have HN := Lib.hid (dnew_any L1.low 1 (fun _ e => by cases e) 40 (by decide) rfl)
 have H1 := Lib.hid L1
 clear hs1 L1 HBG
 go_wp2_with fail
 refine HN.out.mono ?_
 rintro en w2 ⟨d, c2, rfl, hs2, hd2⟩
 have L2 := H1.out.step hs2 fun e => e
 have n2 := Lg.none (j := 2) hs2 H1.out.low (fun _ e => by cases e) (fun e => by cases e) (by decide)
 have HO := Lib.hid (dopen_new (b := 2) (m := 40) (at_ := 8) (n := 32) L2.low hd2 (by decide) (by decide) n2 (by decide) (by decide) (by decide) rfl rfl)
 have H2 := Lib.hid L2
 clear hs2 hd2 L2 n2 HN
 go_wp2_with fail
 refine HO.out.mono ?_
 rintro en w3 ⟨t, la, lc, c3, rfl, hs3, hd3, ht3⟩
 have L3 := H2.out.step hs3 fun e => by cases e
 have hD3 : Dt c3 1 2 w3 d (some t) cfR ⟨newD 40, [], 0, mkHd PFr.void 3⟩ := ⟨L3.low, hd3, fun t' e => (by cases e; exact ht3), rfl, newD_fine 40, newD_byt 40, by decide, fun _ => ⟨by decide, by decide⟩, by decide⟩
 have HNP := Lib.hid (pnew_any (m := 3) (r := 4) L3.low d (some t) cfR 3 3 rfl rfl rfl)
 have H3 := Lib.hid (And.intro L3 hD3)
 clear hs3 hd3 ht3 L3 hD3 HO
 go_wp2_with fail
 refine HNP.out.mono ?_
 rintro en w4 ⟨pb, c4, rfl, hs4, hp4⟩
 have hx4 : PX W c4 1 2 3 4 w4 pb d (some t) cfR ⟨newD 40, [], 0, mkHd PFr.void 3⟩ := ⟨H3.out.1.step hs4 fun e => e, H3.out.2.keep hs4 (fun e => e) (fun e => e) (fun e => by cases e) (fun e => by cases e) (by decide) (by decide), hp4⟩
 have hb4 := cellsAt_new w4 [.int .i64 0, .int .i64 0, .int .i64 0] 72
 have hs5 : Still w4 (w4.alloc (.cells #[.int .i64 0, .int .i64 0, .int .i64 0] 72)) := (Still.refl w4).alloc _
 change cellsAt (w4.alloc (.cells #[.int .i64 0, .int .i64 0, .int .i64 0] 72)) w4.heap.size _ at hb4
 have H4 := Lib.hid (And.intro hx4 (And.intro hb4 hs5))
 clear hs4 hp4 hx4 hb4 hs5 HNP
 go_upto_region 11 with fail
 obtain ⟨bb, hbb⟩ : ∃ b, w4.heap.size = b := ⟨_, rfl⟩
 rw [hbb] at H4 ⊢
 generalize (w4.alloc (.cells #[.int .i64 0, .int .i64 0, .int .i64 0] 72)) = w5 at *
 have HREL := Lib.hid (show RecRel W d t pb bb 0 w5 from by
  obtain ⟨hx4, hb4, hs5⟩ := H4.out
  have hz : W.heap.size ≤ bb := by rw [← hbb]; exact hx4.lg.still.size
  refine ⟨c4, _, _, [0, 0, 0], hx4.calm dif1 hs5, rec_new, hb4, Classical.byContradiction fun e => ?_, hz⟩
  have := hx4.lg.low bb e
  omega)
 clear H4 hbb H1 H2 H3
 go_wp2_with fail
 go_loopw [11] (fun s11 wr => ∃ i : Nat, s11 = .int .i64 i ∧ i ≤ m ∧ RecRel W d t pb bb i wr) (fun s11 _ => m - (intOf s11).toNat)
 case atStart => exact ⟨0, rfl, Nat.zero_le _, HREL.out⟩
 clear HREL
 obtain ⟨i, rfl, him, hrel⟩ := hrel
 have HREL := Lib.hid hrel
 by_cases hi : i < m
 rotate_left
 · have d1 : decide ((i : Int) < (m : Int)) = false := decide_eq_false (by omega)
   have d2 : decide (i < m) = false := decide_eq_false hi
   have F := Lib.hid (show BTrue W (.returned (.bool true)) wr from by
    obtain ⟨c, s, C, rs, h, -⟩ := HREL.out
    exact ⟨rfl, h.lg.still⟩)
   clear hi him hrel
   go_wp2_with fail
   go_ret
   exact F.out
 have d1 : decide ((i : Int) < (m : Int)) = true := decide_eq_true (by omega)
 have d2 : decide (i < m) = true := decide_eq_true hi
 have HI := Lib.hid (And.intro hi HM.out)
 obtain ⟨c, s, C, rs, hx, hrs, hb, hcb, hwb⟩ := hrel
 obtain ⟨z, hz⟩ : ∃ z, L[i]? = some z := ⟨_, List.getElem?_eq_getElem (by have := HL.out.1; omega)⟩
 have hzb := HL.out.2.2 z (List.mem_of_getElem? hz)
 obtain ⟨zn, rfl⟩ : ∃ zn : Nat, z = (zn : Int) := ⟨z.toNat, by omega⟩
 obtain ⟨g, o, cc, he, -, -, hcs⟩ := (HL.out.2.1 (by omega)).pos (by omega)
 cases he
 have hcw : W.cell? ⟨g, o + i, none⟩ = some (.int .u8 zn) := hcs i _ (bc_get hz)
 have HCW := Lib.hid (fun w' (hs : Still W w') => Still.cell hs hcw)
 have hc1 := HCW.out wr hx.lg.still
 have HZB := Lib.hid (show zn ≤ 255 from by omega)
 have l0 : (0 : Int) ≤ (i : Int) := by omega
 have l1 : (i : Int) < (m : Int) := by omega
 have HAP := Lib.hid (px_append hx dif1 (k := 5) (x := 0) (nE_may (k := 5) (t := 0) (by omega) (by omega)) (by rw [hrs.str]; show i * 25 + 25 ≤ 32 * 63; have := HI.out; omega))
 have H5 := Lib.hid (And.intro hx (And.intro hrs (And.intro hb (And.intro hcb hwb))))
 clear hx hrs hb hcb hwb hz hzb hcs hcw him hi HREL
 obtain ⟨kn, hkn⟩ : ∃ k : Nat, (zn : Int).tmod 3 = (k : Int) := ⟨((zn : Int).tmod 3).toNat, by rw [Int.tmod_eq_emod_of_nonneg (by omega)]; omega⟩
 have HKN := Lib.hid (show kn < 3 from by rw [Int.tmod_eq_emod_of_nonneg (by omega)] at hkn; omega)
 have w3 : IntKind.i64.wrap (kn : Int) = (kn : Int) := IntWalk.i64_in _ (by have := HKN.out; omega)
 go_wp2_with fail
 refine HAP.out.mono ?_
 rintro en wa ⟨rfl, ca, hsa, hxa⟩
 have hra := rec_app H5.out.2.1 5 0
 have hba : cellsAt wa bb (rs.map (.int .i64 ·)) := H5.out.2.2.1.only hsa.only (fun e => by
  rw [H5.out.2.2.2.1] at e
  rcases e with e | e | e <;> cases e)
 have hcb : ca bb = 0 := by rw [hsa.old bb H5.out.2.2.1.lt]; exact H5.out.2.2.2.1
 have hca := HCW.out wa hxa.lg.still
 have HA := Lib.hid (And.intro hxa (And.intro hra (And.intro hba (And.intro hcb H5.out.2.2.2.2))))
 clear hsa hxa hra hba hcb HAP H5 hc1
 have HR := Lib.hid (fun w' => row_any w' (letS zn) ⟨#[]⟩ ⟨#[]⟩ 1 0 0 (str_size [97 + (zn : Int) % 26]) rfl rfl (by decide) (by decide) (by decide) (by decide))
 have q1 : (convert 22 9 (.slice (some ⟨wa.heap.size, 0, none⟩) 1 1)).run Tryz.prog (wa.alloc (.cells #[.int .u8 (97 + (zn : Int) % 26)] 5)) = .ok (.string (letS zn)) (wa.alloc (.cells #[.int .u8 (97 + (zn : Int) % 26)] 5)) :=
  conv_at ((cellsAt_new wa [.int .u8 (97 + (zn : Int) % 26)] 5).cell 0)
 go_wp2_with fail
 refine (HR.out _).mono ?_
 rintro en wb ⟨v, rfl, hv, hbl, hg⟩
 have hsb : Still wa wb := ((Still.refl wa).alloc _).trans (Still.of hbl)
 have hz1 : (wa.alloc (.cells #[.int .u8 (97 + (zn : Int) % 26)] 5)).heap.size = wa.heap.size + 1 := by simp
 have hsl : Sl wb (fun g => ca g = 0) 1 v 26 (bc (rowC (97 + (zn : Int) % 26) [] [])) := by
  rw [← letR]
  exact row_slow HA.out.1.lg.low hv fun g e => ⟨by have := hg g e; omega, (hg g e).2⟩
 have hcb := HCW.out wb (HA.out.1.lg.still.trans hsb)
 obtain ⟨va, vc, rfl⟩ := hv.form'
 have hxb := HA.out.1.calm dif1 hsb
 have u1 : IntKind.i64.wrap ((i : Int) + 1) = (i : Int) + 1 := IntWalk.i64_in _ (by have := HI.out; omega)
 obtain ⟨r, hr, r0, r1, -⟩ := rec_get HA.out.2.1 HKN.out
 have HST := Lib.hid (fun j (j0 : 0 ≤ j) (j4 : j < 4) => show Calls Tryz.prog 17 #[.pointer (some ⟨pb, 0, none⟩), .int .i64 kn, .int .i64 j, .slice va 26 vc, .int .i64 ((i : Int) + 1)] wb (fun e w' => e = .returned (.int .i64 0) ∧ ∃ c s C, PX W c 1 2 3 4 w' pb d (some t) cfR s ∧ RecS s C (i + 1) (i + 1) (if r = 0 then rs.set kn ((i : Int) + 1) else rs) ∧ cellsAt w' bb (rs.map (.int .i64 ·)) ∧ c bb = 0) from by
  obtain ⟨s', C', e1, e2⟩ := rec_set HA.out.2.1 HKN.out j0 j4 zn (by have := HI.out; omega) hr
  refine (px_set hxb dif1 (kn : Int) j (bl := rowC (97 + (zn : Int) % 26) [] []) hsl (fun g e => e) (let_ok zn).2.2.2 ((i : Int) + 1) e1).mono ?_
  rintro en w' ⟨rfl, c', hs, hx⟩
  have hbb := HA.out.2.2.1.only hsb fun e => e
  refine ⟨rfl, c', s', C', hx, e2, hbb.only hs.only fun e => ?_, by rw [hs.old bb hbb.lt]; exact HA.out.2.2.2.1⟩
  rw [HA.out.2.2.2.1] at e
  rcases e with e | e | e <;> cases e)
 have HRR := Lib.hid (And.intro hr (And.intro r0 r1))
 have HWB := Lib.hid HA.out.2.2.2.2
 clear hv hbl hg hsb hz1 hsl hca hxb hr r0 r1 HA HR q1
 go_wp2_with fail
 refine (HST.out _ (by omega) (by omega)).mono ?_
 rintro en wc ⟨rfl, cc', sc, Cc, hxc, hrc, hbc, hcc⟩
 have k0 : (0 : Int) ≤ (kn : Int) := by omega
 have k1 : (kn : Int) < 3 := by have := HKN.out; omega
 have cr : wc.cell? ⟨bb, kn, none⟩ = some (.int .i64 r) := three_rows hbc HRR.out.1
 have fr : wc.frozen? ⟨bb, kn, none⟩ = false := hbc.free kn
 have hcc1 := HCW.out wc hxc.lg.still
 have HC := Lib.hid (And.intro hxc (And.intro hrc (And.intro hbc hcc)))
 clear hxc hrc hbc hcc HST hcb
 by_cases hr0 : r = 0
 · have d3 : (r == 0) = true := by rw [hr0]; rfl
   obtain ⟨rs2, hmid⟩ : ∃ rs2, RecMid W d t pb bb i (wc.setCell ⟨bb, kn, none⟩ (.int .i64 ((i : Int) + 1))) rs2 := by
    obtain ⟨hxc, hrc, hbc, hcc⟩ := HC.out
    rw [if_pos hr0] at hrc
    have ho := setCell_only wc ⟨bb, kn, none⟩ (.int .i64 ((i : Int) + 1))
    exact ⟨_, cc', sc, Cc, hxc.own dif1 ho hcc HWB.out, hrc, three_set hbc kn _, hcc, HWB.out⟩
   clear HC hr0 HRR
   go_upto_region 21 with fail
   generalize (wc.setCell ⟨bb, kn, none⟩ (.int .i64 ((i : Int) + 1))) = wd at *
   clear cr fr hcc1 d3
   have hc2 : wd.cell? ⟨g, o + i, none⟩ = some (.int .u8 zn) := by
    obtain ⟨c, s, C, hx, -⟩ := hmid
    exact HCW.out wd hx.lg.still
   obtain ⟨q, hq⟩ : ∃ q, (bits BinOp.and IntKind.u32 (fz / 2 ^ min i 32) 1 == 1) = q := ⟨_, rfl⟩
   have HMID := Lib.hid hmid
   clear hmid
   cases q
   · have HEND := Lib.hid (show RecEnd W d t pb bb i wd from by
      obtain ⟨c, s, C, h1, h2, h3, h4, h5⟩ := HMID.out
      exact ⟨c, s, C, rs2, h1, h2, h3, h4, h5⟩)
     clear HMID hc2
     go_upto_region 26 with fail
     generalize wd = wx at *
     obtain ⟨cz, sz, Cz, rz, hxz, hrz, hbz, hcz, hwz⟩ := HEND.out
     have HDY := Lib.hid (px_dirty hxz dif1 (by rw [hrz.l3]; decide))
     have HZ := Lib.hid (And.intro hxz (And.intro hrz (And.intro hbz (And.intro hcz hwz))))
     clear hxz hrz hbz hcz hwz HEND
     go_wp2_with fail
     refine HDY.out.mono ?_
     rintro en w6 ⟨dv, M, rfl, hM, hS, hdv, hs6, -⟩
     have hM1 := rec_dirty HZ.out.2.1 hM hS
     subst hM1
     obtain ⟨da, dc, rfl⟩ := hdv.form'
     obtain ⟨dn, hdn⟩ : ∃ n, (Ek rz 3).length = n := ⟨_, rfl⟩
     rw [hdn] at hdv
     have H6 := Lib.hid (And.intro (HZ.out.1.calm dif1 hs6) (And.intro (HZ.out.2.2.1.only hs6 fun e => e) (And.intro hdv hdn)))
     rw [hdn]
     clear hM hS hdv hs6 HDY hdn
     go_wp2_with fail
     go_loopw [17, 18] (fun s17 s18 wr => ∃ k : Nat, s18 = .int .i64 k ∧ k ≤ 3 ∧ s17 = .int .i64 ((Ek rz k).length : Nat) ∧ Still w6 wr) (fun _ s18 _ => 3 - (intOf s18).toNat)
     case atStart => exact ⟨0, rfl, by decide, rfl, Still.refl _⟩
     obtain ⟨k, rfl, hk3, rfl, hst⟩ := hrel
     have HST6 := Lib.hid hst
     have H6 := Lib.hid (And.intro (H6.out.1.calm dif1 hst) (And.intro (H6.out.2.1.only hst fun e => e) (And.intro (H6.out.2.2.1.only hst fun _ _ e => e) H6.out.2.2.2)))
     clear hst
     have HK3 := Lib.hid hk3
     obtain ⟨en, hen⟩ : ∃ e, (Ek rz k).length = e := ⟨_, rfl⟩
     have HEN := Lib.hid (And.intro hen (show en ≤ k from by rw [← hen]; exact ek_le))
     rw [hen]
     clear hen
     by_cases hk : k < 3
     rotate_left
     · have d3 : decide ((k : Int) < 3) = false := decide_eq_false (by omega)
       have d4 : decide (k < 3) = false := decide_eq_false hk
       have he : en = dn := by
        have h1 := HEN.out.1
        rw [show k = 3 by omega, H6.out.2.2.2] at h1
        exact h1.symm
       subst he
       have HN := Lib.hid (show RecRel W d t pb bb (i + 1) wr from ⟨cz, sz, Cz, rz, H6.out.1, HZ.out.2.1, H6.out.2.1, HZ.out.2.2.2.1, HZ.out.2.2.2.2⟩)
       clear hk hk3 H6 HZ HEN
       go_wp2_with fail
       go_roundw
       case rel => exact ⟨i + 1, by go_num, by have := HI.out; omega, HN.out⟩
       case measure => simp [intOf]; have := HI.out; omega
     have d3 : decide ((k : Int) < 3) = true := decide_eq_true (by omega)
     have d4 : decide (k < 3) = true := decide_eq_true hk
     have k0 : (0 : Int) ≤ (k : Int) := by omega
     have k1 : (k : Int) < 3 := by omega
     obtain ⟨v, hv, v0, v1, -⟩ := rec_get HZ.out.2.1 hk
     have hgd : rz.getD k 0 = v := by rw [List.getD_eq_getElem?_getD, hv]; rfl
     have cv : wr.cell? ⟨bb, k, none⟩ = some (.int .i64 v) := three_rows H6.out.2.1 hv
     have uk : IntKind.i64.wrap ((k : Int) + 1) = (k : Int) + 1 := IntWalk.i64_in _ (by omega)
     by_cases hv0 : v = 0
     · have d5 : (v == 0) = true := by rw [hv0]; rfl
       have HN := Lib.hid (show (Ek rz (k + 1)).length = en from by
        show (if rz.getD k 0 = 0 then Ek rz k else _).length = en
        rw [if_pos (by rw [hgd]; exact hv0)]
        exact HEN.out.1)
       clear hv hgd hv0 hk hk3
       go_wp2_with fail
       go_roundw
       case rel => exact ⟨k + 1, by go_num, by have := HK3.out; omega, by rw [HN.out], HST6.out⟩
       case measure => simp [intOf]; omega
     have d5 : (v == 0) = false := beq_false_of_ne hv0
     obtain ⟨ha, hl⟩ := ek_at (rs := rz) hk (by rw [hgd]; exact hv0)
     rw [hgd, HEN.out.1] at ha
     rw [HEN.out.1, H6.out.2.2.2] at hl
     obtain ⟨dg, dof, dcp, hde, hda⟩ := Vec.form H6.out.2.2.1 (by omega)
     cases hde
     obtain ⟨A, B, hAB, hAl⟩ : ∃ A B, Ek rz 3 = A ++ ⟨(k : Int), v⟩ :: B ∧ A.length = en := by
      have hlt := (List.getElem?_eq_some_iff.1 ha).1
      refine ⟨(Ek rz 3).take en, (Ek rz 3).drop (en + 1), ?_, by rw [List.length_take]; omega⟩
      have := (List.getElem?_eq_some_iff.1 ha).2
      rw [← this, List.getElem_cons_drop, List.take_append_drop]
     have hdd := dflat_at A ⟨(k : Int), v⟩ B
     rw [← hAB, hAl] at hdd
     have e0 : wr.cell? ⟨dg, dof + en * 2, none⟩ = some (.int .i64 (k : Int)) := (hda.cells _ (by omega)).trans hdd.1
     have e1 : wr.cell? ⟨dg, dof + (en * 2 + 1), none⟩ = some (.int .i64 v) := (hda.cells _ (by omega)).trans hdd.2
     have e1' : wr.cell? ⟨dg, dof + en * 2 + 1, none⟩ = some (.int .i64 v) := by rw [Nat.add_assoc]; exact e1
     have m0 : (0 : Int) ≤ (en : Int) := by omega
     have m1 : (en : Int) < (dn : Int) := by omega
     have d6 : decide ((dn : Int) ≤ (en : Int)) = false := decide_eq_false (by omega)
     have d6' : decide (dn ≤ en) = false := decide_eq_false (by omega)
     have d7 : ((k : Int) != (k : Int)) = false := by simp
     have d8 : (v != v) = false := by simp
     have um : IntKind.i64.wrap ((en : Int) + 1) = (en : Int) + 1 := IntWalk.i64_in _ (by have := HEN.out.2; omega)
     have HN := Lib.hid (show (Ek rz (k + 1)).length = en + 1 from by
      show (if rz.getD k 0 = 0 then Ek rz k else Ek rz k ++ [⟨k, rz.getD k 0⟩]).length = en + 1
      rw [if_neg (by rw [hgd]; exact hv0), List.length_append, HEN.out.1]
      rfl)
     clear hv hgd hv0 hk hk3 ha hl hda hAB hAl hdd
     go_upto_region 32 with fail
     go_quiet (fail)
     go_wp2_with fail
     have a1 : ((k : Int) + 1) = ((k + 1 : Nat) : Int) := rfl
     have a2 : ((en : Int) + 1) = (((Ek rz (k + 1)).length : Nat) : Int) := by rw [HN.out]; rfl
     have a3 : k + 1 ≤ 3 := Int.ofNat_lt.1 k1
     exact ⟨⟨k + 1, congrArg (Value.int .i64) a1, a3, congrArg (Value.int .i64) a2, Only.drewN HST6.out _⟩, Nat.sub_lt_sub_left (Int.ofNat_lt.1 k1) (Nat.lt_succ_self k)⟩
   · obtain ⟨kq, hkq⟩ : ∃ k : Nat, (zn : Int) / 12 % 256 % 3 = (k : Int) := ⟨((zn : Int) / 12 % 256 % 3).toNat, by omega⟩
     have HKQ := Lib.hid (show kq < 3 from by omega)
     obtain ⟨cd, sd, Cd, hxd, hrd, hbd, hcd, hwd⟩ := HMID.out
     obtain ⟨rq, hrq, -⟩ := rec_get hrd HKQ.out
     obtain ⟨se, hse, hre⟩ := rec_flush hrd HKQ.out
     have HFL := Lib.hid (px_flush hxd dif1 (kq : Int) hse)
     have HD := Lib.hid (And.intro hre (And.intro hbd (And.intro hcd (And.intro hrq hwd))))
     clear hxd hrd hbd hcd hrq hwd hse hre HMID
     have k2 : (0 : Int) ≤ (kq : Int) := by omega
     have k3 : (kq : Int) < 3 := by have := HKQ.out; omega
     go_upto_region 23 with fail
     go_wp2_with fail
     refine HFL.out.mono ?_
     rintro en we ⟨rfl, ce, hse, hxe⟩
     have hbe := HD.out.2.1.only hse.only (fun e => by
      rw [HD.out.2.2.1] at e
      rcases e with e | e | e <;> cases e)
     have hce : ce bb = 0 := by rw [hse.old bb HD.out.2.1.lt]; exact HD.out.2.2.1
     have cq : we.cell? ⟨bb, kq, none⟩ = some (.int .i64 rq) := three_rows hbe HD.out.2.2.2.1
     have fq : we.frozen? ⟨bb, kq, none⟩ = false := hbe.free kq
     have HEND := Lib.hid (show RecEnd W d t pb bb i (we.setCell ⟨bb, kq, none⟩ (.int .i64 0)) from by
      have ho := setCell_only we ⟨bb, kq, none⟩ (.int .i64 0)
      exact ⟨ce, se, Cd, _, hxe.own dif1 ho hce HD.out.2.2.2.2, HD.out.1, three_set hbe kq 0, hce, HD.out.2.2.2.2⟩)
     clear hse hxe hbe hce HFL HD hc2
     go_upto_region 26 with fail
     generalize (we.setCell ⟨bb, kq, none⟩ (.int .i64 0)) = wx at *
     clear cq fq
     obtain ⟨cz, sz, Cz, rz, hxz, hrz, hbz, hcz, hwz⟩ := HEND.out
     have HDY := Lib.hid (px_dirty hxz dif1 (by rw [hrz.l3]; decide))
     have HZ := Lib.hid (And.intro hxz (And.intro hrz (And.intro hbz (And.intro hcz hwz))))
     clear hxz hrz hbz hcz hwz HEND
     go_wp2_with fail
     refine HDY.out.mono ?_
     rintro en w6 ⟨dv, M, rfl, hM, hS, hdv, hs6, -⟩
     have hM1 := rec_dirty HZ.out.2.1 hM hS
     subst hM1
     obtain ⟨da, dc, rfl⟩ := hdv.form'
     obtain ⟨dn, hdn⟩ : ∃ n, (Ek rz 3).length = n := ⟨_, rfl⟩
     rw [hdn] at hdv
     have H6 := Lib.hid (And.intro (HZ.out.1.calm dif1 hs6) (And.intro (HZ.out.2.2.1.only hs6 fun e => e) (And.intro hdv hdn)))
     rw [hdn]
     clear hM hS hdv hs6 HDY hdn
     go_wp2_with fail
     go_loopw [17, 18] (fun s17 s18 wr => ∃ k : Nat, s18 = .int .i64 k ∧ k ≤ 3 ∧ s17 = .int .i64 ((Ek rz k).length : Nat) ∧ Still w6 wr) (fun _ s18 _ => 3 - (intOf s18).toNat)
     case atStart => exact ⟨0, rfl, by decide, rfl, Still.refl _⟩
     obtain ⟨k, rfl, hk3, rfl, hst⟩ := hrel
     have HST6 := Lib.hid hst
     have H6 := Lib.hid (And.intro (H6.out.1.calm dif1 hst) (And.intro (H6.out.2.1.only hst fun e => e) (And.intro (H6.out.2.2.1.only hst fun _ _ e => e) H6.out.2.2.2)))
     clear hst
     have HK3 := Lib.hid hk3
     obtain ⟨en, hen⟩ : ∃ e, (Ek rz k).length = e := ⟨_, rfl⟩
     have HEN := Lib.hid (And.intro hen (show en ≤ k from by rw [← hen]; exact ek_le))
     rw [hen]
     clear hen
     by_cases hk : k < 3
     rotate_left
     · have d3 : decide ((k : Int) < 3) = false := decide_eq_false (by omega)
       have d4 : decide (k < 3) = false := decide_eq_false hk
       have he : en = dn := by
        have h1 := HEN.out.1
        rw [show k = 3 by omega, H6.out.2.2.2] at h1
        exact h1.symm
       subst he
       have HN := Lib.hid (show RecRel W d t pb bb (i + 1) wr from ⟨cz, sz, Cz, rz, H6.out.1, HZ.out.2.1, H6.out.2.1, HZ.out.2.2.2.1, HZ.out.2.2.2.2⟩)
       clear hk hk3 H6 HZ HEN
       go_wp2_with fail
       go_roundw
       case rel => exact ⟨i + 1, by go_num, by have := HI.out; omega, HN.out⟩
       case measure => simp [intOf]; have := HI.out; omega
     have d3 : decide ((k : Int) < 3) = true := decide_eq_true (by omega)
     have d4 : decide (k < 3) = true := decide_eq_true hk
     have k0 : (0 : Int) ≤ (k : Int) := by omega
     have k1 : (k : Int) < 3 := by omega
     obtain ⟨v, hv, v0, v1, -⟩ := rec_get HZ.out.2.1 hk
     have hgd : rz.getD k 0 = v := by rw [List.getD_eq_getElem?_getD, hv]; rfl
     have cv : wr.cell? ⟨bb, k, none⟩ = some (.int .i64 v) := three_rows H6.out.2.1 hv
     have uk : IntKind.i64.wrap ((k : Int) + 1) = (k : Int) + 1 := IntWalk.i64_in _ (by omega)
     by_cases hv0 : v = 0
     · have d5 : (v == 0) = true := by rw [hv0]; rfl
       have HN := Lib.hid (show (Ek rz (k + 1)).length = en from by
        show (if rz.getD k 0 = 0 then Ek rz k else _).length = en
        rw [if_pos (by rw [hgd]; exact hv0)]
        exact HEN.out.1)
       clear hv hgd hv0 hk hk3
       go_wp2_with fail
       go_roundw
       case rel => exact ⟨k + 1, by go_num, by have := HK3.out; omega, by rw [HN.out], HST6.out⟩
       case measure => simp [intOf]; omega
     have d5 : (v == 0) = false := beq_false_of_ne hv0
     obtain ⟨ha, hl⟩ := ek_at (rs := rz) hk (by rw [hgd]; exact hv0)
     rw [hgd, HEN.out.1] at ha
     rw [HEN.out.1, H6.out.2.2.2] at hl
     obtain ⟨dg, dof, dcp, hde, hda⟩ := Vec.form H6.out.2.2.1 (by omega)
     cases hde
     obtain ⟨A, B, hAB, hAl⟩ : ∃ A B, Ek rz 3 = A ++ ⟨(k : Int), v⟩ :: B ∧ A.length = en := by
      have hlt := (List.getElem?_eq_some_iff.1 ha).1
      refine ⟨(Ek rz 3).take en, (Ek rz 3).drop (en + 1), ?_, by rw [List.length_take]; omega⟩
      have := (List.getElem?_eq_some_iff.1 ha).2
      rw [← this, List.getElem_cons_drop, List.take_append_drop]
     have hdd := dflat_at A ⟨(k : Int), v⟩ B
     rw [← hAB, hAl] at hdd
     have e0 : wr.cell? ⟨dg, dof + en * 2, none⟩ = some (.int .i64 (k : Int)) := (hda.cells _ (by omega)).trans hdd.1
     have e1 : wr.cell? ⟨dg, dof + (en * 2 + 1), none⟩ = some (.int .i64 v) := (hda.cells _ (by omega)).trans hdd.2
     have e1' : wr.cell? ⟨dg, dof + en * 2 + 1, none⟩ = some (.int .i64 v) := by rw [Nat.add_assoc]; exact e1
     have m0 : (0 : Int) ≤ (en : Int) := by omega
     have m1 : (en : Int) < (dn : Int) := by omega
     have d6 : decide ((dn : Int) ≤ (en : Int)) = false := decide_eq_false (by omega)
     have d6' : decide (dn ≤ en) = false := decide_eq_false (by omega)
     have d7 : ((k : Int) != (k : Int)) = false := by simp
     have d8 : (v != v) = false := by simp
     have um : IntKind.i64.wrap ((en : Int) + 1) = (en : Int) + 1 := IntWalk.i64_in _ (by have := HEN.out.2; omega)
     have HN := Lib.hid (show (Ek rz (k + 1)).length = en + 1 from by
      show (if rz.getD k 0 = 0 then Ek rz k else Ek rz k ++ [⟨k, rz.getD k 0⟩]).length = en + 1
      rw [if_neg (by rw [hgd]; exact hv0), List.length_append, HEN.out.1]
      rfl)
     clear hv hgd hv0 hk hk3 ha hl hda hAB hAl hdd
     go_upto_region 32 with fail
     go_quiet (fail)
     go_wp2_with fail
     have a1 : ((k : Int) + 1) = ((k + 1 : Nat) : Int) := rfl
     have a2 : ((en : Int) + 1) = (((Ek rz (k + 1)).length : Nat) : Int) := by rw [HN.out]; rfl
     have a3 : k + 1 ≤ 3 := Int.ofNat_lt.1 k1
     exact ⟨⟨k + 1, congrArg (Value.int .i64) a1, a3, congrArg (Value.int .i64) a2, Only.drewN HST6.out _⟩, Nat.sub_lt_sub_left (Int.ofNat_lt.1 k1) (Nat.lt_succ_self k)⟩
 · have d3 : (r == 0) = false := beq_false_of_ne hr0
   obtain ⟨rs2, hmid⟩ : ∃ rs2, RecMid W d t pb bb i wc rs2 := by
    obtain ⟨hxc, hrc, hbc, hcc⟩ := HC.out
    rw [if_neg hr0] at hrc
    exact ⟨_, cc', sc, Cc, hxc, hrc, hbc, hcc, HWB.out⟩
   clear HC hr0 HRR
   go_upto_region 21 with fail
   generalize wc = wd at *
   clear cr fr hcc1 d3
   have hc2 : wd.cell? ⟨g, o + i, none⟩ = some (.int .u8 zn) := by
    obtain ⟨c, s, C, hx, -⟩ := hmid
    exact HCW.out wd hx.lg.still
   obtain ⟨q, hq⟩ : ∃ q, (bits BinOp.and IntKind.u32 (fz / 2 ^ min i 32) 1 == 1) = q := ⟨_, rfl⟩
   have HMID := Lib.hid hmid
   clear hmid
   cases q
   · have HEND := Lib.hid (show RecEnd W d t pb bb i wd from by
      obtain ⟨c, s, C, h1, h2, h3, h4, h5⟩ := HMID.out
      exact ⟨c, s, C, rs2, h1, h2, h3, h4, h5⟩)
     clear HMID hc2
     go_upto_region 26 with fail
     generalize wd = wx at *
     obtain ⟨cz, sz, Cz, rz, hxz, hrz, hbz, hcz, hwz⟩ := HEND.out
     have HDY := Lib.hid (px_dirty hxz dif1 (by rw [hrz.l3]; decide))
     have HZ := Lib.hid (And.intro hxz (And.intro hrz (And.intro hbz (And.intro hcz hwz))))
     clear hxz hrz hbz hcz hwz HEND
     go_wp2_with fail
     refine HDY.out.mono ?_
     rintro en w6 ⟨dv, M, rfl, hM, hS, hdv, hs6, -⟩
     have hM1 := rec_dirty HZ.out.2.1 hM hS
     subst hM1
     obtain ⟨da, dc, rfl⟩ := hdv.form'
     obtain ⟨dn, hdn⟩ : ∃ n, (Ek rz 3).length = n := ⟨_, rfl⟩
     rw [hdn] at hdv
     have H6 := Lib.hid (And.intro (HZ.out.1.calm dif1 hs6) (And.intro (HZ.out.2.2.1.only hs6 fun e => e) (And.intro hdv hdn)))
     rw [hdn]
     clear hM hS hdv hs6 HDY hdn
     go_wp2_with fail
     go_loopw [17, 18] (fun s17 s18 wr => ∃ k : Nat, s18 = .int .i64 k ∧ k ≤ 3 ∧ s17 = .int .i64 ((Ek rz k).length : Nat) ∧ Still w6 wr) (fun _ s18 _ => 3 - (intOf s18).toNat)
     case atStart => exact ⟨0, rfl, by decide, rfl, Still.refl _⟩
     obtain ⟨k, rfl, hk3, rfl, hst⟩ := hrel
     have HST6 := Lib.hid hst
     have H6 := Lib.hid (And.intro (H6.out.1.calm dif1 hst) (And.intro (H6.out.2.1.only hst fun e => e) (And.intro (H6.out.2.2.1.only hst fun _ _ e => e) H6.out.2.2.2)))
     clear hst
     have HK3 := Lib.hid hk3
     obtain ⟨en, hen⟩ : ∃ e, (Ek rz k).length = e := ⟨_, rfl⟩
     have HEN := Lib.hid (And.intro hen (show en ≤ k from by rw [← hen]; exact ek_le))
     rw [hen]
     clear hen
     by_cases hk : k < 3
     rotate_left
     · have d3 : decide ((k : Int) < 3) = false := decide_eq_false (by omega)
       have d4 : decide (k < 3) = false := decide_eq_false hk
       have he : en = dn := by
        have h1 := HEN.out.1
        rw [show k = 3 by omega, H6.out.2.2.2] at h1
        exact h1.symm
       subst he
       have HN := Lib.hid (show RecRel W d t pb bb (i + 1) wr from ⟨cz, sz, Cz, rz, H6.out.1, HZ.out.2.1, H6.out.2.1, HZ.out.2.2.2.1, HZ.out.2.2.2.2⟩)
       clear hk hk3 H6 HZ HEN
       go_wp2_with fail
       go_roundw
       case rel => exact ⟨i + 1, by go_num, by have := HI.out; omega, HN.out⟩
       case measure => simp [intOf]; have := HI.out; omega
     have d3 : decide ((k : Int) < 3) = true := decide_eq_true (by omega)
     have d4 : decide (k < 3) = true := decide_eq_true hk
     have k0 : (0 : Int) ≤ (k : Int) := by omega
     have k1 : (k : Int) < 3 := by omega
     obtain ⟨v, hv, v0, v1, -⟩ := rec_get HZ.out.2.1 hk
     have hgd : rz.getD k 0 = v := by rw [List.getD_eq_getElem?_getD, hv]; rfl
     have cv : wr.cell? ⟨bb, k, none⟩ = some (.int .i64 v) := three_rows H6.out.2.1 hv
     have uk : IntKind.i64.wrap ((k : Int) + 1) = (k : Int) + 1 := IntWalk.i64_in _ (by omega)
     by_cases hv0 : v = 0
     · have d5 : (v == 0) = true := by rw [hv0]; rfl
       have HN := Lib.hid (show (Ek rz (k + 1)).length = en from by
        show (if rz.getD k 0 = 0 then Ek rz k else _).length = en
        rw [if_pos (by rw [hgd]; exact hv0)]
        exact HEN.out.1)
       clear hv hgd hv0 hk hk3
       go_wp2_with fail
       go_roundw
       case rel => exact ⟨k + 1, by go_num, by have := HK3.out; omega, by rw [HN.out], HST6.out⟩
       case measure => simp [intOf]; omega
     have d5 : (v == 0) = false := beq_false_of_ne hv0
     obtain ⟨ha, hl⟩ := ek_at (rs := rz) hk (by rw [hgd]; exact hv0)
     rw [hgd, HEN.out.1] at ha
     rw [HEN.out.1, H6.out.2.2.2] at hl
     obtain ⟨dg, dof, dcp, hde, hda⟩ := Vec.form H6.out.2.2.1 (by omega)
     cases hde
     obtain ⟨A, B, hAB, hAl⟩ : ∃ A B, Ek rz 3 = A ++ ⟨(k : Int), v⟩ :: B ∧ A.length = en := by
      have hlt := (List.getElem?_eq_some_iff.1 ha).1
      refine ⟨(Ek rz 3).take en, (Ek rz 3).drop (en + 1), ?_, by rw [List.length_take]; omega⟩
      have := (List.getElem?_eq_some_iff.1 ha).2
      rw [← this, List.getElem_cons_drop, List.take_append_drop]
     have hdd := dflat_at A ⟨(k : Int), v⟩ B
     rw [← hAB, hAl] at hdd
     have e0 : wr.cell? ⟨dg, dof + en * 2, none⟩ = some (.int .i64 (k : Int)) := (hda.cells _ (by omega)).trans hdd.1
     have e1 : wr.cell? ⟨dg, dof + (en * 2 + 1), none⟩ = some (.int .i64 v) := (hda.cells _ (by omega)).trans hdd.2
     have e1' : wr.cell? ⟨dg, dof + en * 2 + 1, none⟩ = some (.int .i64 v) := by rw [Nat.add_assoc]; exact e1
     have m0 : (0 : Int) ≤ (en : Int) := by omega
     have m1 : (en : Int) < (dn : Int) := by omega
     have d6 : decide ((dn : Int) ≤ (en : Int)) = false := decide_eq_false (by omega)
     have d6' : decide (dn ≤ en) = false := decide_eq_false (by omega)
     have d7 : ((k : Int) != (k : Int)) = false := by simp
     have d8 : (v != v) = false := by simp
     have um : IntKind.i64.wrap ((en : Int) + 1) = (en : Int) + 1 := IntWalk.i64_in _ (by have := HEN.out.2; omega)
     have HN := Lib.hid (show (Ek rz (k + 1)).length = en + 1 from by
      show (if rz.getD k 0 = 0 then Ek rz k else Ek rz k ++ [⟨k, rz.getD k 0⟩]).length = en + 1
      rw [if_neg (by rw [hgd]; exact hv0), List.length_append, HEN.out.1]
      rfl)
     clear hv hgd hv0 hk hk3 ha hl hda hAB hAl hdd
     go_upto_region 32 with fail
     go_quiet (fail)
     go_wp2_with fail
     have a1 : ((k : Int) + 1) = ((k + 1 : Nat) : Int) := rfl
     have a2 : ((en : Int) + 1) = (((Ek rz (k + 1)).length : Nat) : Int) := by rw [HN.out]; rfl
     have a3 : k + 1 ≤ 3 := Int.ofNat_lt.1 k1
     exact ⟨⟨k + 1, congrArg (Value.int .i64) a1, a3, congrArg (Value.int .i64) a2, Only.drewN HST6.out _⟩, Nat.sub_lt_sub_left (Int.ofNat_lt.1 k1) (Nat.lt_succ_self k)⟩
   · obtain ⟨kq, hkq⟩ : ∃ k : Nat, (zn : Int) / 12 % 256 % 3 = (k : Int) := ⟨((zn : Int) / 12 % 256 % 3).toNat, by omega⟩
     have HKQ := Lib.hid (show kq < 3 from by omega)
     obtain ⟨cd, sd, Cd, hxd, hrd, hbd, hcd, hwd⟩ := HMID.out
     obtain ⟨rq, hrq, -⟩ := rec_get hrd HKQ.out
     obtain ⟨se, hse, hre⟩ := rec_flush hrd HKQ.out
     have HFL := Lib.hid (px_flush hxd dif1 (kq : Int) hse)
     have HD := Lib.hid (And.intro hre (And.intro hbd (And.intro hcd (And.intro hrq hwd))))
     clear hxd hrd hbd hcd hrq hwd hse hre HMID
     have k2 : (0 : Int) ≤ (kq : Int) := by omega
     have k3 : (kq : Int) < 3 := by have := HKQ.out; omega
     go_upto_region 23 with fail
     go_wp2_with fail
     refine HFL.out.mono ?_
     rintro en we ⟨rfl, ce, hse, hxe⟩
     have hbe := HD.out.2.1.only hse.only (fun e => by
      rw [HD.out.2.2.1] at e
      rcases e with e | e | e <;> cases e)
     have hce : ce bb = 0 := by rw [hse.old bb HD.out.2.1.lt]; exact HD.out.2.2.1
     have cq : we.cell? ⟨bb, kq, none⟩ = some (.int .i64 rq) := three_rows hbe HD.out.2.2.2.1
     have fq : we.frozen? ⟨bb, kq, none⟩ = false := hbe.free kq
     have HEND := Lib.hid (show RecEnd W d t pb bb i (we.setCell ⟨bb, kq, none⟩ (.int .i64 0)) from by
      have ho := setCell_only we ⟨bb, kq, none⟩ (.int .i64 0)
      exact ⟨ce, se, Cd, _, hxe.own dif1 ho hce HD.out.2.2.2.2, HD.out.1, three_set hbe kq 0, hce, HD.out.2.2.2.2⟩)
     clear hse hxe hbe hce HFL HD hc2
     go_upto_region 26 with fail
     generalize (we.setCell ⟨bb, kq, none⟩ (.int .i64 0)) = wx at *
     clear cq fq
     obtain ⟨cz, sz, Cz, rz, hxz, hrz, hbz, hcz, hwz⟩ := HEND.out
     have HDY := Lib.hid (px_dirty hxz dif1 (by rw [hrz.l3]; decide))
     have HZ := Lib.hid (And.intro hxz (And.intro hrz (And.intro hbz (And.intro hcz hwz))))
     clear hxz hrz hbz hcz hwz HEND
     go_wp2_with fail
     refine HDY.out.mono ?_
     rintro en w6 ⟨dv, M, rfl, hM, hS, hdv, hs6, -⟩
     have hM1 := rec_dirty HZ.out.2.1 hM hS
     subst hM1
     obtain ⟨da, dc, rfl⟩ := hdv.form'
     obtain ⟨dn, hdn⟩ : ∃ n, (Ek rz 3).length = n := ⟨_, rfl⟩
     rw [hdn] at hdv
     have H6 := Lib.hid (And.intro (HZ.out.1.calm dif1 hs6) (And.intro (HZ.out.2.2.1.only hs6 fun e => e) (And.intro hdv hdn)))
     rw [hdn]
     clear hM hS hdv hs6 HDY hdn
     go_wp2_with fail
     go_loopw [17, 18] (fun s17 s18 wr => ∃ k : Nat, s18 = .int .i64 k ∧ k ≤ 3 ∧ s17 = .int .i64 ((Ek rz k).length : Nat) ∧ Still w6 wr) (fun _ s18 _ => 3 - (intOf s18).toNat)
     case atStart => exact ⟨0, rfl, by decide, rfl, Still.refl _⟩
     obtain ⟨k, rfl, hk3, rfl, hst⟩ := hrel
     have HST6 := Lib.hid hst
     have H6 := Lib.hid (And.intro (H6.out.1.calm dif1 hst) (And.intro (H6.out.2.1.only hst fun e => e) (And.intro (H6.out.2.2.1.only hst fun _ _ e => e) H6.out.2.2.2)))
     clear hst
     have HK3 := Lib.hid hk3
     obtain ⟨en, hen⟩ : ∃ e, (Ek rz k).length = e := ⟨_, rfl⟩
     have HEN := Lib.hid (And.intro hen (show en ≤ k from by rw [← hen]; exact ek_le))
     rw [hen]
     clear hen
     by_cases hk : k < 3
     rotate_left
     · have d3 : decide ((k : Int) < 3) = false := decide_eq_false (by omega)
       have d4 : decide (k < 3) = false := decide_eq_false hk
       have he : en = dn := by
        have h1 := HEN.out.1
        rw [show k = 3 by omega, H6.out.2.2.2] at h1
        exact h1.symm
       subst he
       have HN := Lib.hid (show RecRel W d t pb bb (i + 1) wr from ⟨cz, sz, Cz, rz, H6.out.1, HZ.out.2.1, H6.out.2.1, HZ.out.2.2.2.1, HZ.out.2.2.2.2⟩)
       clear hk hk3 H6 HZ HEN
       go_wp2_with fail
       go_roundw
       case rel => exact ⟨i + 1, by go_num, by have := HI.out; omega, HN.out⟩
       case measure => simp [intOf]; have := HI.out; omega
     have d3 : decide ((k : Int) < 3) = true := decide_eq_true (by omega)
     have d4 : decide (k < 3) = true := decide_eq_true hk
     have k0 : (0 : Int) ≤ (k : Int) := by omega
     have k1 : (k : Int) < 3 := by omega
     obtain ⟨v, hv, v0, v1, -⟩ := rec_get HZ.out.2.1 hk
     have hgd : rz.getD k 0 = v := by rw [List.getD_eq_getElem?_getD, hv]; rfl
     have cv : wr.cell? ⟨bb, k, none⟩ = some (.int .i64 v) := three_rows H6.out.2.1 hv
     have uk : IntKind.i64.wrap ((k : Int) + 1) = (k : Int) + 1 := IntWalk.i64_in _ (by omega)
     by_cases hv0 : v = 0
     · have d5 : (v == 0) = true := by rw [hv0]; rfl
       have HN := Lib.hid (show (Ek rz (k + 1)).length = en from by
        show (if rz.getD k 0 = 0 then Ek rz k else _).length = en
        rw [if_pos (by rw [hgd]; exact hv0)]
        exact HEN.out.1)
       clear hv hgd hv0 hk hk3
       go_wp2_with fail
       go_roundw
       case rel => exact ⟨k + 1, by go_num, by have := HK3.out; omega, by rw [HN.out], HST6.out⟩
       case measure => simp [intOf]; omega
     have d5 : (v == 0) = false := beq_false_of_ne hv0
     obtain ⟨ha, hl⟩ := ek_at (rs := rz) hk (by rw [hgd]; exact hv0)
     rw [hgd, HEN.out.1] at ha
     rw [HEN.out.1, H6.out.2.2.2] at hl
     obtain ⟨dg, dof, dcp, hde, hda⟩ := Vec.form H6.out.2.2.1 (by omega)
     cases hde
     obtain ⟨A, B, hAB, hAl⟩ : ∃ A B, Ek rz 3 = A ++ ⟨(k : Int), v⟩ :: B ∧ A.length = en := by
      have hlt := (List.getElem?_eq_some_iff.1 ha).1
      refine ⟨(Ek rz 3).take en, (Ek rz 3).drop (en + 1), ?_, by rw [List.length_take]; omega⟩
      have := (List.getElem?_eq_some_iff.1 ha).2
      rw [← this, List.getElem_cons_drop, List.take_append_drop]
     have hdd := dflat_at A ⟨(k : Int), v⟩ B
     rw [← hAB, hAl] at hdd
     have e0 : wr.cell? ⟨dg, dof + en * 2, none⟩ = some (.int .i64 (k : Int)) := (hda.cells _ (by omega)).trans hdd.1
     have e1 : wr.cell? ⟨dg, dof + (en * 2 + 1), none⟩ = some (.int .i64 v) := (hda.cells _ (by omega)).trans hdd.2
     have e1' : wr.cell? ⟨dg, dof + en * 2 + 1, none⟩ = some (.int .i64 v) := by rw [Nat.add_assoc]; exact e1
     have m0 : (0 : Int) ≤ (en : Int) := by omega
     have m1 : (en : Int) < (dn : Int) := by omega
     have d6 : decide ((dn : Int) ≤ (en : Int)) = false := decide_eq_false (by omega)
     have d6' : decide (dn ≤ en) = false := decide_eq_false (by omega)
     have d7 : ((k : Int) != (k : Int)) = false := by simp
     have d8 : (v != v) = false := by simp
     have um : IntKind.i64.wrap ((en : Int) + 1) = (en : Int) + 1 := IntWalk.i64_in _ (by have := HEN.out.2; omega)
     have HN := Lib.hid (show (Ek rz (k + 1)).length = en + 1 from by
      show (if rz.getD k 0 = 0 then Ek rz k else Ek rz k ++ [⟨k, rz.getD k 0⟩]).length = en + 1
      rw [if_neg (by rw [hgd]; exact hv0), List.length_append, HEN.out.1]
      rfl)
     clear hv hgd hv0 hk hk3 ha hl hda hAB hAl hdd
     go_upto_region 32 with fail
     go_quiet (fail)
     go_wp2_with fail
     have a1 : ((k : Int) + 1) = ((k + 1 : Nat) : Int) := rfl
     have a2 : ((en : Int) + 1) = (((Ek rz (k + 1)).length : Nat) : Int) := by rw [HN.out]; rfl
     have a3 : k + 1 ≤ 3 := Int.ofNat_lt.1 k1
     exact ⟨⟨k + 1, congrArg (Value.int .i64) a1, a3, congrArg (Value.int .i64) a2, Only.drewN HST6.out _⟩, Nat.sub_lt_sub_left (Int.ofNat_lt.1 k1) (Nat.lt_succ_self k)⟩
end Go.Proofs.YtlcfoeikamkpmaaGreat

namespace Go.Proofs.YtlcfoeikamkpmaaGreat
open Go.RowKit Go.Wh Go.Maps Go.ChangeShapes Go.WideShapes Go.ChangeAt

theorem row_sl {W : World} {a : Option Addr} {m c : Nat} {zs : List Int} (h : IsRow .u8 W a m zs) (hm : 0 < m) : Sl W (fun _ => True) 1 (.slice a m c) m (bc zs) := by
 rcases h with ⟨h, _⟩ | ⟨b, off, rfl, hb, _, _, hl, hc, _⟩
 · omega
 · refine ⟨by rw [bc_length]; omega, .inr ⟨b, off, c, rfl, fun _ => ⟨trivial, hb⟩, fun j u hj => ?_⟩⟩
   have hjl := (List.getElem?_eq_some_iff.1 hj).1
   rw [bc_length] at hjl
   rw [hc j (by omega)]
   have e : (bc zs)[j]? = some (.int .u8 (zs.getD j 0)) := by
    unfold bc
    rw [List.getElem?_map, List.getD_eq_getElem?_getD, List.getElem?_eq_getElem hjl]
    rfl
   rw [← e]
   exact hj
theorem row_byt {W : World} {a : Option Addr} {m : Nat} {zs : List Int} (h : IsRow .u8 W a m zs) : Byt zs := by
 rcases h with ⟨_, rfl⟩ | ⟨b, off, rfl, hb, _, _, hl, hc, hw⟩
 · intro z hz; cases hz
 · intro z hz
   have := byte_wf (hw z hz)
   omega
end Go.Proofs.YtlcfoeikamkpmaaGreat

namespace Go.Proofs.YtlcfoeikamkpmaaGreat
open Go.RowKit Go.Wh Go.ChangeShapes Go.WideShapes Go.ChangeAt

theorem recOwn : ownKnob Tryz.prog.godebug = none := by kernel_rfl
theorem recLaid : laidOutB Tryz.prog = true := by kernel_rfl

set_option maxRecDepth 100000 in
theorem poolRec_lifted (os : Os) (started : os.Started) (H : Type) (enc : TypeId × Value → H) :
 ReturnsInHanded {} Tryz.checked os 6 .any (Rows.poolRecSpec.pre6 enc Tryz.prog Tryz.f6 Rows.poolRecRow.domain false) (Rows.poolRecSpec.post enc Tryz.prog Tryz.f6 false true false false) := by
 refine returnsInHanded_of_change (C := Tryz.checked) recOwn started (by kernel_rfl) Tryz.func6
  (ChangeSpec.witness6 (enc := enc) (C := Tryz.checked) false ⟨#[], #[.slice none 0 0, .int .u32 0], []⟩ 8 (by kernel_rfl) (by kernel_rfl) (by kernel_rfl) (by kernel_rfl)) ?_
 intro W base args ds gs before hval0 hW hcnd _
 have hval : ∀ (j : Nat) t v, Tryz.f6.params[j]? = some t → args[j]? = some v → Value.okWide Tryz.prog W .any base t v := hval0
 have hW' := hW
 obtain ⟨p, q, hA0, hV, rfl, hfz, hnd⟩ := hW
 have hA : DataW.TrodAll enc Tryz.prog W 0 (fun _ => true) true Tryz.f6.params.toList args.toList ds p := hA0
 rw [Tryz.params6] at hA hval
 obtain ⟨v0, v1, d0, d1, p0, p1, rfl, rfl, rfl, h0, h1⟩ := trodAll_two hA
 obtain ⟨a0, m0, c0, z0, rfl, w0, l0⟩ := open_row Tryz.underlying22 Tryz.underlying5 (by kernel_rfl) (hval 0 22 v0 rfl rfl) h0
 obtain ⟨n1, rfl, rfl, rfl, w1⟩ := open_int Tryz.underlying71 (hval 1 71 v1 rfl rfl) h1
 have walk : Calls Tryz.prog 6 #[.slice a0 m0 c0, .int .u32 n1] W (BTrue W) := by
  exact rec_walk W (fun _ => True) a0 m0 c0 z0 n1 ⟨l0, row_sl w0, row_byt w0⟩
 refine walk.mono fun e W' ⟨he, bel⟩ => ?_
 subst he
 exact ⟨_, rfl, law_post recLaid (t := 4) rfl Tryz.underlying4 rfl (by intro t ht; rw [show Tryz.f6.params.toList = [22, 71] from rfl] at ht; simp at ht; rcases ht with rfl | rfl <;> exact ⟨by kernel_rfl, of_decide_eq_true (by kernel_rfl)⟩) hW' rfl (Only.below bel (Nat.le_refl _) fun _ _ e => e)⟩

theorem poolRec_holds : Rows.PoolRecSaid :=
 OpenClaim.holds_of_wide 6 Tryz.f6 rfl rfl rfl rfl rfl rfl rfl ⟨rfl, rfl, rfl, rfl, rfl⟩ rfl rfl rfl rfl rfl (by kernel_rfl) Tryz.func6 (by kernel_rfl)
  (of_decide_eq_true (by kernel_rfl)) (by unfold Func.isWrapper; first | (rw [if_pos (by decide +kernel)]; kernel_rfl) | (rw [if_neg (by decide +kernel)]; exact ⟨rfl, rfl⟩))
  (fun os started H enc _ => poolRec_lifted os started H enc)
#print axioms poolRec_holds
end Go.Proofs.YtlcfoeikamkpmaaGreat
