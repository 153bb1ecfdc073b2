/- What is got from a sorted row of keys behind a put, a cut. No program. No conditions. -/
import Derived.Test.YtjmkfppnimengaaTreeRa
namespace Go.Proofs.Ytjmkfppnimengaa
open Go.RowKit Go.Wh

theorem keys_get {l : Nd 0} {j : Nat} {x : Key × E 0} (h : l[j]? = some x) : (keys l)[j]? = some x.1 := by
  have : (keys l)[j]? = (l[j]?).map fun y => y.1 := List.getElem?_map
  rw [this, h]
  rfl
theorem getL_some {l : Nd 0} (hs : KS (keys l)) {k : Key} {v : Rid} : getL l k = some v ↔ kr k v ∈ l := by
  constructor
  · intro h
    unfold getL at h
    cases hk : hasK (keys l) k with
    | false => rw [hk] at h; cases h
    | true =>
      rw [hk] at h
      simp only [if_true] at h
      have hg : (keys l)[pos (keys l) k]? = some k := by simpa [hasK] using hk
      have hlt := (List.getElem?_eq_some_iff.1 hg).1
      rw [keys_length] at hlt
      have hx : l[pos (keys l) k]? = some l[pos (keys l) k] := List.getElem?_eq_getElem hlt
      have h1 := keys_get hx
      have h2 := vals_get hx
      rw [hg] at h1
      rw [h] at h2
      injection h1 with h1
      injection h2 with h2
      have e : kr k v = l[pos (keys l) k] := Prod.ext h1 h2
      rw [e]
      exact List.getElem_mem _
  · intro h
    obtain ⟨j, hj⟩ := List.mem_iff_getElem?.1 h
    have h1 := keys_get hj
    have h2 := vals_get hj
    have h3 := pos_at hs h1
    have h4 := hasK_at hs h1
    unfold getL
    rw [show (kr k v).1 = k from rfl] at h3 h4
    rw [h4, h3]
    simp only [if_true]
    rw [h2]
    rfl
theorem hasK_get (l : Nd 0) (k : Key) : hasK (keys l) k = (getL l k).isSome := by
  cases hk : hasK (keys l) k with
  | true =>
    have hlt := hasK_lt hk
    rw [keys_length] at hlt
    unfold getL
    rw [hk]
    simp only [if_true]
    rw [List.getElem?_eq_getElem (by rw [vals_length]; exact hlt)]
    rfl
  | false =>
    unfold getL
    rw [hk]
    rfl

section
variable {l : Nd 0} {k : Key} {v : Rid} {x : Key × E 0}
theorem mem_take_low (h : x ∈ l.take (pos (keys l) k)) : x.1 ≠ k := by
  have h1 : x.1 ∈ (keys l).take (pos (keys l) k) := by
    rw [keys_take]
    exact List.mem_map_of_mem h
  intro e
  have := take_low (keys l) k _ h1
  rw [e, bl_irrefl] at this
  cases this
theorem mem_drop_high (hs : KS (keys l)) (h : x ∈ l.drop (if hasK (keys l) k then pos (keys l) k + 1 else pos (keys l) k)) : x.1 ≠ k := by
  have h1 : x.1 ∈ (keys l).drop (if hasK (keys l) k then pos (keys l) k + 1 else pos (keys l) k) := by
    rw [keys_drop]
    exact List.mem_map_of_mem h
  intro e
  have := drop_high hs k _ h1
  rw [e, bl_irrefl] at this
  cases this
theorem mem_parts (hx : x ∈ l) (hk : x.1 ≠ k) : x ∈ l.take (pos (keys l) k) ∨ x ∈ l.drop (if hasK (keys l) k then pos (keys l) k + 1 else pos (keys l) k) := by
  obtain ⟨j, hj⟩ := List.mem_iff_getElem?.1 hx
  rcases Nat.lt_or_ge j (pos (keys l) k) with h | h
  · left
    refine List.mem_iff_getElem?.2 ⟨j, ?_⟩
    rw [List.getElem?_take, if_pos h, hj]
  · right
    have hq : (if hasK (keys l) k then pos (keys l) k + 1 else pos (keys l) k) ≤ j := by
      split
      · rename_i hh
        rcases Nat.eq_or_lt_of_le h with e | e
        · have hg : (keys l)[pos (keys l) k]? = some k := by simpa [hasK] using hh
          have h1 := keys_get hj
          rw [← e, hg] at h1
          injection h1 with h1
          exact absurd h1.symm hk
        · exact e
      · exact h
    refine List.mem_iff_getElem?.2 ⟨j - (if hasK (keys l) k then pos (keys l) k + 1 else pos (keys l) k), ?_⟩
    rw [List.getElem?_drop, Nat.add_sub_cancel' hq, hj]
theorem mem_ins (hs : KS (keys l)) : x ∈ insL l k v ↔ x = kr k v ∨ (x ∈ l ∧ x.1 ≠ k) := by
  constructor
  · intro h
    unfold insL at h
    rcases List.mem_append.1 h with h | h
    · exact .inr ⟨List.mem_of_mem_take h, mem_take_low h⟩
    · rcases List.mem_cons.1 h with h | h
      · exact .inl h
      · exact .inr ⟨List.mem_of_mem_drop h, mem_drop_high hs h⟩
  · intro h
    unfold insL
    rcases h with h | ⟨h, hk⟩
    · exact List.mem_append.2 (.inr (List.mem_cons.2 (.inl h)))
    · rcases mem_parts h hk with h | h
      · exact List.mem_append.2 (.inl h)
      · exact List.mem_append.2 (.inr (List.mem_cons.2 (.inr h)))
theorem mem_del (hs : KS (keys l)) : x ∈ delL l k ↔ x ∈ l ∧ x.1 ≠ k := by
  unfold delL
  cases hk : hasK (keys l) k with
  | false =>
    simp only [Bool.false_eq_true, if_false]
    refine ⟨fun h => ⟨h, fun e => ?_⟩, fun h => h.1⟩
    obtain ⟨j, hj⟩ := List.mem_iff_getElem?.1 h
    have h1 := hasK_at hs (keys_get hj)
    rw [e, hk] at h1
    cases h1
  | true =>
    simp only [if_true]
    constructor
    · intro h
      rcases List.mem_append.1 h with h | h
      · exact ⟨List.mem_of_mem_take h, mem_take_low h⟩
      · exact ⟨List.mem_of_mem_drop h, mem_drop_high hs (by rw [hk]; exact h)⟩
    · rintro ⟨h, hne⟩
      rcases mem_parts h hne with h | h
      · exact List.mem_append.2 (.inl h)
      · rw [hk] at h
        exact List.mem_append.2 (.inr h)
theorem getL_ins (hs : KS (keys l)) (k' : Key) : getL (insL l k v) k' = if k' = k then some v else getL l k' := by
  apply Option.ext
  intro u
  rw [getL_some (KS_ins hs k v), mem_ins hs]
  by_cases h : k' = k
  · rw [if_pos h]
    subst h
    refine ⟨fun e => ?_, fun e => .inl (by injection e with e; rw [e])⟩
    rcases e with e | e
    · have : u = v := congrArg Prod.snd e
      rw [this]
    · exact absurd rfl e.2
  · rw [if_neg h, getL_some hs]
    refine ⟨fun e => ?_, fun e => .inr ⟨e, h⟩⟩
    rcases e with e | e
    · exact absurd (congrArg Prod.fst e) h
    · exact e.1
theorem getL_del (hs : KS (keys l)) (k' : Key) : getL (delL l k) k' = if k' = k then none else getL l k' := by
  apply Option.ext
  intro u
  rw [getL_some (KS_del hs k), mem_del hs]
  by_cases h : k' = k
  · rw [if_pos h]
    subst h
    exact ⟨fun e => absurd rfl e.2, fun e => by cases e⟩
  · rw [if_neg h, getL_some hs]
    exact ⟨fun e => e.1, fun e => ⟨e, h⟩⟩
end
end Go.Proofs.Ytjmkfppnimengaa
