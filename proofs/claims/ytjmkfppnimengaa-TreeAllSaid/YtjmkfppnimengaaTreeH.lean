/- A node of children: what its cells are, and one of its children taken out. Conditions: a node in memory. -/
import Derived.Test.YtjmkfppnimengaaTreeG
import Derived.Test.YtjmkfppnimengaaTreeP
namespace Go.Proofs.Ytjmkfppnimengaa
open Go.RowKit Go.Wh

section
variable {w w' : World} {r : Nat} {ks : List Key} {vs : List Rid} {cs F : List Nat}

theorem Raw.kids (h : Raw w r ks vs cs F) (hc : 0 < cs.length) : ∃ g o c, w.cell? ⟨r, 2, none⟩ = some (.slice (some ⟨g, o, none⟩) cs.length c) ∧ ∀ j a, cs[j]? = some a → w.cell? ⟨g, o + j, none⟩ = some (ptr a) := by
  obtain ⟨kv, vv, cv, hn, _, _, _⟩ := h
  obtain ⟨g, o, c, rfl, hv⟩ := hn.c.form hc
  refine ⟨g, o, c, hn.cells.cell 2, fun j a ha => ?_⟩
  rw [hv.cells j (by have := (List.getElem?_eq_some_iff.1 ha).1; omega)]
  exact pcells_get ha

theorem kcells_set (ks : List Key) (j : Nat) (a : Key) : (kcells ks).set j (.string a) = kcells (ks.set j a) := by
  simp [kcells, List.map_set]

theorem Raw.keysAt (h : Raw w r ks vs cs F) (hc : 0 < ks.length) : ∃ g o c, w.cell? ⟨r, 0, none⟩ = some (.slice (some ⟨g, o, none⟩) ks.length c) ∧ g ∈ F ∧ (∀ j a, ks[j]? = some a → w.cell? ⟨g, o + j, none⟩ = some (.string a) ∧ w.frozen? ⟨g, o + j, none⟩ = false) ∧
    ∀ j a, j < ks.length → Raw (w.setCell ⟨g, o + j, none⟩ (.string a)) r (ks.set j a) vs cs F := by
  obtain ⟨kv, vv, cv, hn, hF, hd, hl⟩ := h
  obtain ⟨g, o, c, rfl, hv⟩ := hn.k.form hc
  have hA := foot_nodup.1 (hF ▸ hd)
  refine ⟨g, o, c, hn.cells.cell 0, by rw [hF]; exact mem_foot.2 (.inr (.inl rfl)), fun j a ha => ⟨?_, ?_⟩, fun j a hj => ?_⟩
  · rw [hv.cells j (by have := (List.getElem?_eq_some_iff.1 ha).1; omega)]
    exact kcells_get ha
  · exact hv.free j (by have := (List.getElem?_eq_some_iff.1 ha).1; omega)
  · have hgr : r ≠ g := fun e => hA.rk g rfl e.symm
    refine ⟨.slice (some ⟨g, o, none⟩) ks.length c, vv, cv, ⟨hn.cells.setOther (p := ⟨g, o + j, none⟩) hgr _, ?_, vec_set hn.v (p := ⟨g, o + j, none⟩) (fun e => hA.akv g rfl e) _, vec_set hn.c (p := ⟨g, o + j, none⟩) (fun e => hA.akc g rfl e) _⟩, hF, hd, fun b hb => by simpa [World.setCell] using hl b hb⟩
    rw [List.length_set, ← kcells_set]
    exact .inr ⟨_, _, _, rfl, hv.set j (by omega) (.string a)⟩

theorem Raw.setKey_only (w : World) {g : Nat} {F : List Nat} (hg : g ∈ F) (o : Nat) (u : Value) : Only (fun b => b ∈ F) w (w.setCell ⟨g, o, none⟩ u) := (Only.refl _ w).setCell (.inl hg) u
end

/-- One of the children. -/
theorem Inr.focus {d : Nat} {w : World} {r : Nat} {ks : List Key} {qs rs : List Nat} {cs : List (Nd d)} {F0 : List Nat} {Fs : List (List Nat)} (h : Inr d w r ks qs rs cs F0 Fs) (i : Nat) {A B : List (Nd d)} {c : Nd d} (hc : cs = A ++ ([c] ++ B)) (hA : A.length = i) :
    ∃ ra q rb Fa f Fb, rs = ra ++ ([q] ++ rb) ∧ Fs = Fa ++ ([f] ++ Fb) ∧ ra.length = i ∧ Sons (At d w) ra A Fa ∧ At d w q c f ∧ Sons (At d w) rb B Fb ∧ rs[i]? = some q := by
  have hk := h.kids
  rw [hc] at hk
  obtain ⟨ra, rx, Fa, fx, rfl, rfl, h1, h2⟩ := hk.part
  obtain ⟨rm, rb, fm, fb, rfl, rfl, h3, h4⟩ := h2.part
  obtain ⟨q, f, rfl, rfl, h5⟩ := h3.get1
  have hl : ra.length = i := h1.lenR.trans hA
  exact ⟨ra, q, rb, Fa, f, fb, rfl, rfl, hl, h1, h5, h4, by rw [List.getElem?_append_right (by omega), hl, Nat.sub_self]; rfl⟩

theorem subs_split {d : Nat} (l : Nd (d + 1)) (i : Nat) (hi : i < l.length) : subs l = subs (l.take i) ++ ([sub l i] ++ subs (l.drop (i + 1))) := by
  have h1 : l = l.take i ++ ([l[i]] ++ l.drop (i + 1)) := by
    conv => lhs; rw [← List.take_append_drop i l, List.drop_eq_getElem_cons hi]
    rfl
  have h2 : sub l i = nd l[i] := by
    unfold sub
    rw [List.getElem?_eq_getElem hi]
  rw [h2]
  conv => lhs; rw [h1, subs_append, subs_append]
  rfl
theorem keys_split {d : Nat} (l : Nd (d + 1)) (i : Nat) (p : Nd (d + 1)) : keys (l.take i ++ (p ++ l.drop (i + 1))) = (keys l).take i ++ (keys p ++ (keys l).drop (i + 1)) := by
  rw [keys_append, keys_append, keys_take, keys_drop]
theorem subs_length_take {d : Nat} (l : Nd (d + 1)) (i : Nat) (hi : i < l.length) : (subs (l.take i)).length = i := by
  rw [subs_length, List.length_take]
  omega

/-- The least key of a node that is not empty, in memory. -/
theorem At.least {d : Nat} {w : World} {r : Nat} {c : Nd d} {F : List Nat} (h : At d w r c F) (hc : 0 < c.length) : ∃ g o n p, w.cell? ⟨r, 0, none⟩ = some (.slice (some ⟨g, o, none⟩) n p) ∧ 0 < n ∧ w.cell? ⟨g, o, none⟩ = some (.string (fk c)) ∧ r ∈ F ∧ g ∈ F := by
  obtain ⟨vs, cs, F0, hr, _, _, hf⟩ := h.raw
  have hl := keys_length c
  obtain ⟨g, o, p, h1, hg, h2, _⟩ := hr.keysAt (by omega)
  have h3 : (keys c)[0]? = some (fk c) := by
    unfold fk
    cases hk : keys c with
    | nil => rw [hk] at hl; simp at hl; omega
    | cons a t => rfl
  exact ⟨g, o, _, p, h1, by omega, (h2 0 _ h3).1, hf r hr.self, hf g hg⟩

def PutPost (d : Nat) (w : World) (r : Nat) (l : Nd d) (F : List Nat) (k : Key) (v : Rid) (e : Ending) (w' : World) : Prop :=
  ∃ F', e = .returned (.bool (putB d l k)) ∧ At d w' r (putM d l k v) F' ∧ Only (fun b => b ∈ F) w w' ∧ ∀ b ∈ F', b ∈ F ∨ w.heap.size ≤ b

theorem putLeaf_ins (l : Nd 0) (k : Key) (v : Rid) (hx : ∀ j, pos (keys l) k = j → hasK (keys l) k = true → (keys l)[j]? = some k) : putLeaf (keys l) (vals l) k v = (keys (insL l k v), vals (insL l k v)) := by
  have h0 : ∀ (x : Key × E 0) (b : Nd 0), keys (x :: b) = x.1 :: keys b := fun _ _ => rfl
  have h1 : ∀ (x : Key × E 0) (b : Nd 0), vals (x :: b) = x.2 :: vals b := fun _ _ => rfl
  unfold putLeaf insL
  cases hk : hasK (keys l) k with
  | true =>
    have hg := hx _ rfl hk
    have hlt : pos (keys l) k < l.length := by rw [← keys_length]; exact (List.getElem?_eq_some_iff.1 hg).1
    simp only [if_true]
    have ek : keys (l.take (pos (keys l) k) ++ kr k v :: l.drop (pos (keys l) k + 1)) = keys l := by
      have hk' : (keys l)[pos (keys l) k]'(by rw [keys_length]; exact hlt) = k := (List.getElem?_eq_some_iff.1 hg).2
      have : keys l = (keys l).take (pos (keys l) k) ++ (k :: (keys l).drop (pos (keys l) k + 1)) := by
        conv => lhs; rw [← List.take_append_drop (pos (keys l) k) (keys l), List.drop_eq_getElem_cons (by rw [keys_length]; exact hlt), hk']
      rw [keys_append, ← keys_take, h0, ← keys_drop]
      exact this.symm
    have ev : vals (l.take (pos (keys l) k) ++ kr k v :: l.drop (pos (keys l) k + 1)) = (vals l).set (pos (keys l) k) v := by
      rw [vals_append, ← vals_take, h1, ← vals_drop, List.set_eq_take_append_cons_drop, if_pos (by rw [vals_length]; exact hlt)]
      rfl
    rw [ek, ev]
  | false =>
    simp only [Bool.false_eq_true, if_false]
    have ek : keys (l.take (pos (keys l) k) ++ kr k v :: l.drop (pos (keys l) k)) = (keys l).take (pos (keys l) k) ++ k :: (keys l).drop (pos (keys l) k) := by
      rw [keys_append, ← keys_take, h0, ← keys_drop]
      rfl
    have ev : vals (l.take (pos (keys l) k) ++ kr k v :: l.drop (pos (keys l) k)) = (vals l).take (pos (keys l) k) ++ v :: (vals l).drop (pos (keys l) k) := by
      rw [vals_append, ← vals_take, h1, ← vals_drop]
      rfl
    rw [ek, ev]

theorem put_zero (w : World) (r : Nat) (l : Nd 0) (F : List Nat) (k : Key) (v : Rid) (h : At 0 w r l F) (ha : Able 0 l) : Calls Try.prog 27 #[ptr r, .string k, ridV v] w (PutPost 0 w r l F k v) := by
  refine (put_leaf w r (keys l) (vals l) F k v h ha.1 (by rw [keys_length, vals_length]) (by rw [keys_length]; have := ha.2; omega)).mono ?_
  rintro e w' ⟨F', rfl, h1, h2, h3⟩
  rw [putLeaf_ins l k v (fun j hj hh => by subst hj; simpa [hasK] using hh)] at h1
  exact ⟨F', rfl, h1, h2, h3⟩
end Go.Proofs.Ytjmkfppnimengaa
