/- The law of a balanced tree, as lists: what is put, cut, got is put, cut, got of all that it has, in order; and it stays balanced. No program. No conditions. The second instance: a place and a second key. A key is cut out of a tree: the walk at every level. Conditions: a tree in memory, its leaves rising. The second instance: a place and a second key. A tree as it is held: its cells, its root, all that it has in order. New, Len. Conditions: a tree in memory. The second instance: a place and a second key. -/
import Derived.Test.YtedfijmaeoednaaGreatDoorBx18
import Derived.StillTailTactics
namespace Go.Proofs.YtedfijmaeoednaaGreatDoor.Ke
open Go.RowKit Go.Wh

section
variable {A C B : Nd 0} {k : Key}
theorem insL_mid (v : Rid) (ha : ∀ a ∈ keys A, bl a k = true) (hb : ∀ b ∈ keys B, bl k b = true) : insL (A ++ (C ++ B)) k v = A ++ (insL C k v ++ B) := by
  have hp := pos_le (keys C) k
  rw [keys_length] at hp
  unfold insL
  rw [keys_append, keys_append, pos_mid ha hb, hasK_mid ha hb, keys_length]
  have e1 : (A ++ (C ++ B)).take (A.length + pos (keys C) k) = A ++ C.take (pos (keys C) k) := by
    rw [List.take_append, List.take_of_length_le (by omega), Nat.add_sub_cancel_left, List.take_append_of_le_length hp]
  have e2 : ∀ q, q ≤ C.length → (A ++ (C ++ B)).drop (A.length + q) = C.drop q ++ B := fun q hq => by
    rw [List.drop_append, List.drop_eq_nil_of_le (by omega), Nat.add_sub_cancel_left, List.drop_append_of_le_length hq]
    rfl
  rw [e1]
  cases hk : hasK (keys C) k with
  | true =>
    have := hasK_lt hk
    rw [keys_length] at this
    simp only [if_true]
    rw [Nat.add_assoc, e2 _ (by omega)]
    simp
  | false =>
    simp only [Bool.false_eq_true, if_false]
    rw [e2 _ hp]
    simp
theorem delL_mid (ha : ∀ a ∈ keys A, bl a k = true) (hb : ∀ b ∈ keys B, bl k b = true) : delL (A ++ (C ++ B)) k = A ++ (delL C k ++ B) := by
  have hp := pos_le (keys C) k
  rw [keys_length] at hp
  unfold delL
  rw [keys_append, keys_append, pos_mid ha hb, hasK_mid ha hb, keys_length]
  have e1 : (A ++ (C ++ B)).take (A.length + pos (keys C) k) = A ++ C.take (pos (keys C) k) := by
    rw [List.take_append, List.take_of_length_le (by omega), Nat.add_sub_cancel_left, List.take_append_of_le_length hp]
  have e2 : ∀ q, q ≤ C.length → (A ++ (C ++ B)).drop (A.length + q) = C.drop q ++ B := fun q hq => by
    rw [List.drop_append, List.drop_eq_nil_of_le (by omega), Nat.add_sub_cancel_left, List.drop_append_of_le_length hq]
    rfl
  cases hk : hasK (keys C) k with
  | true =>
    have := hasK_lt hk
    rw [keys_length] at this
    simp only [if_true]
    rw [e1, Nat.add_assoc, e2 _ (by omega)]
    simp
  | false =>
    simp only [Bool.false_eq_true, if_false]

/-- What stands by a key. -/
def getL (l : Nd 0) (k : Key) : Option Rid := if hasK (keys l) k then (vals l)[pos (keys l) k]? else none
theorem getL_mid (ha : ∀ a ∈ keys A, bl a k = true) (hb : ∀ b ∈ keys B, bl k b = true) : getL (A ++ (C ++ B)) k = getL C k := by
  unfold getL
  rw [keys_append, keys_append, pos_mid ha hb, hasK_mid ha hb, keys_length]
  cases hk : hasK (keys C) k with
  | true =>
    have := hasK_lt hk
    rw [keys_length] at this
    simp only [if_true]
    rw [vals_append, vals_append, List.getElem?_append_right (by rw [vals_length]; omega), vals_length, Nat.add_sub_cancel_left, List.getElem?_append_left (by rw [vals_length]; omega)]
  | false => rfl
theorem drop_mid (ha : ∀ a ∈ keys A, bl a k = true) (hb : ∀ b ∈ keys B, bl k b = true) : (A ++ (C ++ B)).drop (pos (keys (A ++ (C ++ B))) k) = C.drop (pos (keys C) k) ++ B := by
  have hp := pos_le (keys C) k
  rw [keys_length] at hp
  rw [keys_append, keys_append, pos_mid ha hb, keys_length, List.drop_append, List.drop_eq_nil_of_le (by omega), Nat.add_sub_cancel_left, List.drop_append_of_le_length hp]
  rfl
end

theorem flat_append (d : Nat) (a b : Nd (d + 1)) : flat (d + 1) (a ++ b) = flat (d + 1) a ++ flat (d + 1) b := List.flatMap_append
theorem flat_cons {d : Nat} (x : Key × E (d + 1)) (l : Nd (d + 1)) : flat (d + 1) (x :: l) = flat d (nd x) ++ flat (d + 1) l := List.flatMap_cons
theorem flat_nil (d : Nat) : flat (d + 1) [] = [] := rfl
theorem flat_one {d : Nat} (x : Key × E (d + 1)) : flat (d + 1) [x] = flat d (nd x) := by
  rw [flat_cons, flat_nil, List.append_nil]
theorem flat_take_drop : ∀ (d : Nat) (l : Nd d) (m : Nat), flat d (l.take m) ++ flat d (l.drop m) = flat d l
  | 0, l, m => List.take_append_drop m l
  | d + 1, l, m => by rw [← flat_append, List.take_append_drop]
theorem flat_app : ∀ (d : Nat) (a b : Nd d), flat d (a ++ b) = flat d a ++ flat d b
  | 0, _, _ => rfl
  | d + 1, a, b => flat_append d a b

theorem split_at_i {d : Nat} (l : Nd (d + 1)) (i : Nat) (hi : i < l.length) : ∃ x, x ∈ l ∧ l[i]? = some x ∧ nd x = sub l i ∧ l = l.take i ++ (x :: l.drop (i + 1)) := by
  refine ⟨l[i], List.getElem_mem hi, List.getElem?_eq_getElem hi, ?_, ?_⟩
  · unfold sub
    rw [List.getElem?_eq_getElem hi]
  · conv => lhs; rw [← List.take_append_drop i l, List.drop_eq_getElem_cons hi]
theorem flat_split {d : Nat} (l : Nd (d + 1)) (i : Nat) (hi : i < l.length) : flat (d + 1) l = flat (d + 1) (l.take i) ++ (flat d (sub l i) ++ flat (d + 1) (l.drop (i + 1))) := by
  obtain ⟨x, _, _, hx, e⟩ := split_at_i l i hi
  conv => lhs; rw [e]
  rw [flat_append, flat_cons, hx]

/-- The least key is the first of all. -/
theorem fk_first : ∀ (d : Nat) (c : Nd d), Fit d c → 0 < c.length → ∃ t, keys (flat d c) = fk c :: t
  | 0, c, _, h => by
    unfold fk flat
    cases hk : keys c with
    | nil =>
      have := keys_length c
      rw [hk] at this
      simp at this
      omega
    | cons a t => exact ⟨t, rfl⟩
  | d + 1, c, hf, h => by
    cases c with
    | nil => simp at h
    | cons x c =>
      have h1 := hf x (by simp)
      obtain ⟨t, ht⟩ := fk_first d (nd x) h1.2.2.2 (by omega)
      have e : fk (x :: c) = x.1 := rfl
      exact ⟨t ++ keys (flat (d + 1) c), by rw [flat_cons, keys_append, ht, e, h1.2.2.1]; rfl⟩

theorem Fit.sub {d : Nat} {l : Nd (d + 1)} (h : Fit (d + 1) l) {i : Nat} (hi : i < l.length) : 2 ≤ (Proofs.YtedfijmaeoednaaGreatDoor.Ke.sub l i).length ∧ (Proofs.YtedfijmaeoednaaGreatDoor.Ke.sub l i).length ≤ 4 ∧ Fit d (Proofs.YtedfijmaeoednaaGreatDoor.Ke.sub l i) ∧ (keys l)[i]? = some (fk (Proofs.YtedfijmaeoednaaGreatDoor.Ke.sub l i)) := by
  obtain ⟨x, hx, hg, e, _⟩ := split_at_i l i hi
  have := h x hx
  rw [e] at this
  refine ⟨this.1, this.2.1, this.2.2.2, ?_⟩
  unfold keys
  rw [List.getElem?_map, hg, ← this.2.2.1]
  rfl

/-- All ahead of the key's child is less, all behind it is greater. -/
theorem child_split {d : Nat} {l : Nd (d + 1)} (hf : Fit (d + 1) l) (h0 : 0 < l.length) (hs : KS (keys (flat (d + 1) l))) (k : Key) :
    (∀ a ∈ keys (flat (d + 1) (l.take (childI (keys l) k))), bl a k = true) ∧ ∀ b ∈ keys (flat (d + 1) (l.drop (childI (keys l) k + 1))), bl k b = true := by
  have hi := child_lt h0 k
  obtain ⟨i, hie⟩ : ∃ i, childI (keys l) k = i := ⟨_, rfl⟩
  have hat := fun (j : Nat) (a : Key) => childI_at (ks := keys l) (k := k) (a := a) (i := j)
  rw [hie] at hi ⊢
  simp only [hie] at hat
  have hsp := flat_split l i hi
  rw [hsp, keys_append, keys_append] at hs
  have hs1 := List.pairwise_append.1 hs
  have hs2 := List.pairwise_append.1 hs1.2.1
  refine ⟨fun a ha => ?_, fun b hb => ?_⟩
  · cases i with
    | zero => simp [keys, flat] at ha
    | succ i =>
      have h1 := hf.sub hi
      obtain ⟨t, ht⟩ := fk_first d (Proofs.YtedfijmaeoednaaGreatDoor.Ke.sub l (i + 1)) h1.2.2.1 (by omega)
      have h2 := hs1.2.2 a ha (fk (Proofs.YtedfijmaeoednaaGreatDoor.Ke.sub l (i + 1))) (by rw [ht]; simp)
      exact lt_of_lt_le h2 ((hat i _ (by omega) h1.2.2.2).2 (by omega))
  · rcases Nat.lt_or_ge (i + 1) l.length with h | h
    · have h1 := hf.sub h
      obtain ⟨t, ht⟩ := fk_first d (Proofs.YtedfijmaeoednaaGreatDoor.Ke.sub l (i + 1)) h1.2.2.1 (by omega)
      have h2 : bl k (fk (Proofs.YtedfijmaeoednaaGreatDoor.Ke.sub l (i + 1))) = true := by
        cases hb' : bl k (fk (Proofs.YtedfijmaeoednaaGreatDoor.Ke.sub l (i + 1))) with
        | true => rfl
        | false => have := (hat i _ (Nat.le_refl _) h1.2.2.2).1 hb'; omega
      have h3 := flat_split (l.drop (i + 1)) 0 (by rw [List.length_drop]; omega)
      have h4 : Proofs.YtedfijmaeoednaaGreatDoor.Ke.sub (l.drop (i + 1)) 0 = Proofs.YtedfijmaeoednaaGreatDoor.Ke.sub l (i + 1) := by
        unfold Proofs.YtedfijmaeoednaaGreatDoor.Ke.sub
        rw [List.getElem?_drop]
      rw [h4, List.take_zero, flat_nil, List.nil_append] at h3
      have hks := hs2.2.1
      rw [h3, keys_append, ht, List.cons_append] at hb hks
      rcases List.mem_cons.1 hb with rfl | hb
      · exact h2
      · exact bl_trans h2 ((List.pairwise_cons.1 hks).1 b hb)
    · rw [List.drop_eq_nil_of_le h] at hb
      simp [keys, flat] at hb

theorem KS.part {A C B : Nd 0} (h : KS (keys (A ++ (C ++ B)))) : KS (keys C) := by
  rw [keys_append, keys_append] at h
  exact (List.pairwise_append.1 (List.pairwise_append.1 h).2.1).1
theorem KS.sub {d : Nat} {l : Nd (d + 1)} (h : KS (keys (flat (d + 1) l))) {i : Nat} (hi : i < l.length) : KS (keys (flat d (Proofs.YtedfijmaeoednaaGreatDoor.Ke.sub l i))) := by
  rw [flat_split l i hi] at h
  exact Ke.KS.part h

theorem flat_parted {d : Nat} (c : Nd d) : flat (d + 1) (parted c) = flat d c := by
  unfold parted
  split
  · rw [flat_one]; rfl
  · rw [flat_cons, flat_one]
    exact flat_take_drop d c _

/-- Put. -/
theorem flat_put : ∀ (d : Nat) (l : Nd d) (k : Key) (v : Rid), Fit d l → (d = 0 ∨ 0 < l.length) → KS (keys (flat d l)) → flat d (putM d l k v) = insL (flat d l) k v ∧ putB d l k = !hasK (keys (flat d l)) k
  | 0, l, k, v, _, _, _ => ⟨rfl, rfl⟩
  | d + 1, l, k, v, hf, h0, hs => by
    have h0' : 0 < l.length := by omega
    have hi := child_lt h0' k
    obtain ⟨ha, hb⟩ := child_split hf h0' hs k
    have hsub := hf.sub hi
    have ih := flat_put d (sub l (childI (keys l) k)) k v hsub.2.2.1 (.inr (by omega)) (Ke.KS.sub hs hi)
    have e := flat_split l _ hi
    refine ⟨?_, ?_⟩
    · unfold putM
      rw [flat_append, flat_append, flat_parted, ih.1, e, insL_mid v ha hb]
    · unfold putB
      rw [ih.2, e, keys_append, keys_append, hasK_mid ha hb]

/-- Got. -/
def getM : (d : Nat) → Nd d → Key → Option Rid
  | 0, l, k => getL l k
  | d + 1, l, k => getM d (sub l (childI (keys l) k)) k
theorem flat_get : ∀ (d : Nat) (l : Nd d) (k : Key), Fit d l → (d = 0 ∨ 0 < l.length) → KS (keys (flat d l)) → getM d l k = getL (flat d l) k
  | 0, _, _, _, _, _ => rfl
  | d + 1, l, k, hf, h0, hs => by
    have h0' : 0 < l.length := by omega
    have hi := child_lt h0' k
    obtain ⟨ha, hb⟩ := child_split hf h0' hs k
    have hsub := hf.sub hi
    have ih := flat_get d (sub l (childI (keys l) k)) k hsub.2.2.1 (.inr (by omega)) (Ke.KS.sub hs hi)
    unfold getM
    rw [ih, flat_split l _ hi, getL_mid ha hb]

/-- All children of a row. -/
def flatC {d : Nat} (cs : List (Nd d)) : Nd 0 := cs.flatMap (flat d)
theorem flatC_append {d : Nat} (a b : List (Nd d)) : flatC (a ++ b) = flatC a ++ flatC b := List.flatMap_append
theorem flatC_one {d : Nat} (c : Nd d) : flatC [c] = flat d c := by simp [flatC]
theorem flatC_two {d : Nat} (a b : Nd d) : flatC [a, b] = flat d a ++ flat d b := by simp [flatC]
theorem flatC_subs {d : Nat} (l : Nd (d + 1)) : flatC (subs l) = flat (d + 1) l := by
  induction l with
  | nil => rfl
  | cons x l ih =>
    rw [flat_cons, ← ih]
    rfl
theorem flat_reKey {d : Nat} (cs : List (Nd d)) : flat (d + 1) (reKey cs) = flatC cs := by
  rw [← flatC_subs, subs_reKey]
theorem flatC_halves {d : Nat} (c : Nd d) : flatC (halves c) = flat d c := by
  unfold halves
  split
  · exact flatC_one c
  · rw [flatC_two, flat_take_drop]
theorem flatC_join {d : Nat} (cs : List (Nd d)) (i : Nat) (hi : i < cs.length) : flatC (joinC cs i) = flatC cs := by
  unfold joinC
  split
  · rfl
  · have e := at_split2 cs (i - 1) (by omega)
    conv => rhs; rw [e]
    rw [flatC_append, flatC_append, flatC_append, flatC_append, flatC_halves, flatC_two, flat_app]
theorem flat_cut : ∀ (d : Nat) (l : Nd d) (k : Key), Fit d l → (d = 0 ∨ 0 < l.length) → KS (keys (flat d l)) → flat d (cutM d l k) = delL (flat d l) k ∧ cutB d l k = hasK (keys (flat d l)) k
  | 0, l, k, _, _, _ => ⟨rfl, rfl⟩
  | d + 1, l, k, hf, h0, hs => by
    have h0' : 0 < l.length := by omega
    have hi := child_lt h0' k
    obtain ⟨ha, hb⟩ := child_split hf h0' hs k
    have hsub := hf.sub hi
    have ih := flat_cut d (sub l (childI (keys l) k)) k hsub.2.2.1 (.inr (by omega)) (Ke.KS.sub hs hi)
    have e := flat_split l _ hi
    refine ⟨?_, ?_⟩
    · unfold cutM
      rw [flat_reKey, flatC_join _ _ (by rw [cutC_length _ _ _ hi]; exact hi)]
      unfold cutC
      rw [flatC_append, flatC_append, flatC_one, flatC_subs, flatC_subs, ih.1, e, delL_mid ha hb]
    · unfold cutB
      rw [ih.2, e, keys_append, keys_append, hasK_mid ha hb]

/-- What the nodes are. -/
theorem Fit.part {d : Nat} {l : Nd d} (h : Fit d l) {l' : Nd d} (hm : ∀ x ∈ l', x ∈ l) : Fit d l' := by
  cases d with
  | zero => trivial
  | succ d => exact fun x hx => h x (hm x hx)
theorem Fit.append {d : Nat} {a b : Nd d} (ha : Fit d a) (hb : Fit d b) : Fit d (a ++ b) := by
  cases d with
  | zero => trivial
  | succ d =>
    intro x hx
    rcases List.mem_append.1 hx with h | h
    · exact ha x h
    · exact hb x h
theorem fit_parted {d : Nat} {c : Nd d} (h : Fit d c) (h2 : 2 ≤ c.length) (h5 : c.length ≤ 5) : Fit (d + 1) (parted c) := by
  unfold parted
  split
  · intro x hx
    simp at hx
    subst hx
    exact ⟨h2, by assumption, rfl, h⟩
  · intro x hx
    simp only [List.mem_cons, List.not_mem_nil, or_false] at hx
    rcases hx with rfl | rfl
    · refine ⟨?_, ?_, rfl, h.part fun x hx => List.mem_of_mem_take hx⟩
      · show 2 ≤ (c.take (c.length / 2)).length
        rw [List.length_take]; omega
      · show (c.take (c.length / 2)).length ≤ 4
        rw [List.length_take]; omega
    · refine ⟨?_, ?_, rfl, h.part fun x hx => List.mem_of_mem_drop hx⟩
      · show 2 ≤ (c.drop (c.length / 2)).length
        rw [List.length_drop]; omega
      · show (c.drop (c.length / 2)).length ≤ 4
        rw [List.length_drop]; omega
theorem fit_put : ∀ (d : Nat) (l : Nd d) (k : Key) (v : Rid), Fit d l → (d = 0 ∨ 0 < l.length) → Fit d (putM d l k v)
  | 0, _, _, _, _, _ => trivial
  | d + 1, l, k, v, hf, h0 => by
    have hi := child_lt (show 0 < l.length by omega) k
    have hsub := hf.sub hi
    have ih := fit_put d (sub l (childI (keys l) k)) k v hsub.2.2.1 (.inr (by omega))
    have hl := putM_length d (sub l (childI (keys l) k)) k v (.inr (by omega))
    unfold putM
    exact (hf.part fun x hx => List.mem_of_mem_take hx).append ((fit_parted ih (by omega) (by omega)).append (hf.part fun x hx => List.mem_of_mem_drop hx))

/-- A child may be one too small. -/
def Fine {d : Nat} (cs : List (Nd d)) : Prop := ∀ c ∈ cs, 2 ≤ c.length ∧ c.length ≤ 4 ∧ Fit d c
theorem fit_reKey {d : Nat} {cs : List (Nd d)} (h : Fine cs) : Fit (d + 1) (reKey cs) := by
  intro x hx
  obtain ⟨c, hc, rfl⟩ := List.mem_map.1 hx
  exact ⟨(h c hc).1, (h c hc).2.1, rfl, (h c hc).2.2⟩
theorem fine_halves {d : Nat} {c : Nd d} (h : Fit d c) (h2 : 2 ≤ c.length) (h5 : c.length ≤ 5) : Fine (halves c) := by
  unfold halves
  split
  · intro x hx
    simp at hx
    subst hx
    exact ⟨h2, by assumption, h⟩
  · intro x hx
    simp only [List.mem_cons, List.not_mem_nil, or_false] at hx
    rcases hx with rfl | rfl
    · exact ⟨by rw [List.length_take]; omega, by rw [List.length_take]; omega, h.part fun x hx => List.mem_of_mem_take hx⟩
    · exact ⟨by rw [List.length_drop]; omega, by rw [List.length_drop]; omega, h.part fun x hx => List.mem_of_mem_drop hx⟩
theorem at_other {d : Nat} {A B : List (Nd d)} {c : Nd d} {j : Nat} (hj : j < (A ++ ([c] ++ B)).length) (hne : j ≠ A.length) : at' (A ++ ([c] ++ B)) j ∈ A ∨ at' (A ++ ([c] ++ B)) j ∈ B := by
  unfold at'
  rcases Nat.lt_or_ge j A.length with h | h
  · rw [List.getElem?_append_left h, List.getElem?_eq_getElem h]
    exact .inl (List.getElem_mem h)
  · have h1 : 1 ≤ j - A.length := by omega
    have h2 : j - A.length - 1 < B.length := by simp at hj; omega
    rw [List.getElem?_append_right h, List.getElem?_append_right (by simpa using h1), List.length_singleton, List.getElem?_eq_getElem h2]
    exact .inr (List.getElem_mem h2)
theorem at_this {d : Nat} {A B : List (Nd d)} {c : Nd d} : at' (A ++ ([c] ++ B)) A.length = c := by
  unfold at'
  rw [List.getElem?_append_right (Nat.le_refl _), Nat.sub_self]
  rfl
theorem fine_join {d : Nat} {A B : List (Nd d)} {c : Nd d} (hA : Fine A) (hB : Fine B) (hc : 1 ≤ c.length ∧ c.length ≤ 4 ∧ Fit d c) (h2 : 2 ≤ (A ++ ([c] ++ B)).length) : Fine (joinC (A ++ ([c] ++ B)) A.length) := by
  unfold joinC
  rw [at_this]
  split
  · rename_i h
    intro x hx
    rcases List.mem_append.1 hx with hx | hx
    · exact hA x hx
    · rcases List.mem_append.1 hx with hx | hx
      · simp at hx
        subst hx
        exact ⟨by omega, hc.2⟩
      · exact hB x hx
  · rename_i h
    have hlen : (A ++ ([c] ++ B)).length = A.length + (1 + B.length) := by simp; omega
    have hj : A.length - 1 + 1 < (A ++ ([c] ++ B)).length := by omega
    have hcl : c.length = 1 := by omega
    have hpair : ∃ a b, at' (A ++ ([c] ++ B)) (A.length - 1) = a ∧ at' (A ++ ([c] ++ B)) (A.length - 1 + 1) = b ∧ ((a = c ∧ (b ∈ A ∨ b ∈ B)) ∨ (b = c ∧ (a ∈ A ∨ a ∈ B))) := by
      refine ⟨_, _, rfl, rfl, ?_⟩
      rcases Nat.eq_zero_or_pos A.length with h0 | h0
      · refine .inl ⟨?_, at_other hj (by omega)⟩
        rw [show A.length - 1 = A.length by omega]
        exact at_this
      · refine .inr ⟨?_, at_other (by omega) (by omega)⟩
        rw [show A.length - 1 + 1 = A.length by omega]
        exact at_this
    obtain ⟨a, b, ea, eb, hab⟩ := hpair
    rw [ea, eb]
    have hfine : ∀ x, x ∈ A ∨ x ∈ B → 2 ≤ x.length ∧ x.length ≤ 4 ∧ Fit d x := fun x hx => hx.elim (hA x) (hB x)
    have hh : Fine (halves (a ++ b)) := by
      rcases hab with ⟨rfl, hb⟩ | ⟨rfl, ha⟩
      · have := hfine b hb
        exact fine_halves (hc.2.2.append this.2.2) (by rw [List.length_append]; omega) (by rw [List.length_append]; omega)
      · have := hfine a ha
        exact fine_halves (this.2.2.append hc.2.2) (by rw [List.length_append]; omega) (by rw [List.length_append]; omega)
    intro x hx
    rcases List.mem_append.1 hx with hx | hx
    · rcases Nat.eq_zero_or_pos A.length with h0 | h0
      · rw [show A.length - 1 = 0 by omega] at hx
        simp at hx
      · rw [List.take_append_of_le_length (by omega)] at hx
        exact hA x (List.mem_of_mem_take hx)
    · rcases List.mem_append.1 hx with hx | hx
      · exact hh x hx
      · rcases Nat.eq_zero_or_pos A.length with h0 | h0
        · have hA0 : A = [] := List.length_eq_zero_iff.1 h0
          subst hA0
          exact hB x (List.mem_of_mem_tail (by simpa using hx))
        · rw [show A.length - 1 + 2 = A.length + 1 by omega, ← List.append_assoc, List.drop_left' (by simp)] at hx
          exact hB x hx
theorem fine_subs {d : Nat} {l : Nd (d + 1)} (h : Fit (d + 1) l) : Fine (subs l) := fun c hc => by
  obtain ⟨x, hx, rfl⟩ := subs_mem hc
  exact ⟨(h x hx).1, (h x hx).2.1, (h x hx).2.2.2⟩
theorem fit_cut : ∀ (d : Nat) (l : Nd d) (k : Key), Fit d l → (d = 0 ∨ 2 ≤ l.length) → Fit d (cutM d l k)
  | 0, _, _, _, _ => trivial
  | d + 1, l, k, hf, h0 => by
    have hi := child_lt (show 0 < l.length by omega) k
    have hsub := hf.sub hi
    have ih := fit_cut d (sub l (childI (keys l) k)) k hsub.2.2.1 (.inr hsub.1)
    have hl := cutM_length d (sub l (childI (keys l) k)) k (.inr (by omega))
    unfold cutM
    have hA : Fine (subs (l.take (childI (keys l) k))) := fine_subs (hf.part fun x hx => List.mem_of_mem_take hx)
    have hB : Fine (subs (l.drop (childI (keys l) k + 1))) := fine_subs (hf.part fun x hx => List.mem_of_mem_drop hx)
    have h2 := cutC_length (fun c => cutM d c k) l (childI (keys l) k) hi
    unfold cutC at h2 ⊢
    have h3 := fine_join hA hB (c := cutM d (sub l (childI (keys l) k)) k) ⟨by omega, by omega, ih⟩ (by rw [h2]; omega)
    rw [subs_length_take l _ hi] at h3
    exact fit_reKey h3

/-- What the walks ask. -/
theorem able_of_fit : ∀ (d : Nat) (l : Nd d), Fit d l → (d = 0 ∨ 0 < l.length) → l.length ≤ 90 → KS (keys (flat d l)) → Able d l
  | 0, _, _, _, h90, hs => ⟨hs, h90⟩
  | d + 1, l, hf, h0, h90, hs => by
    refine ⟨by omega, h90, fun x hx => ?_⟩
    obtain ⟨i, hi, e⟩ := List.mem_iff_getElem.1 hx
    have hsub : sub l i = nd x := by
      unfold sub
      rw [List.getElem?_eq_getElem hi, e]
    have h1 := hf.sub hi
    have h2 := able_of_fit d (sub l i) h1.2.2.1 (.inr (by omega)) (by omega) (Ke.KS.sub hs hi)
    rwa [hsub] at h2
theorem cutAble_of_fit : ∀ (d : Nat) (l : Nd d), Fit d l → (d = 0 ∨ 0 < l.length) → l.length ≤ 90 → KS (keys (flat d l)) → CutAble d l
  | 0, _, _, _, h90, hs => ⟨hs, h90⟩
  | d + 1, l, hf, h0, h90, hs => by
    refine ⟨by omega, h90, fun x hx => ?_⟩
    obtain ⟨i, hi, e⟩ := List.mem_iff_getElem.1 hx
    have hsub : sub l i = nd x := by
      unfold sub
      rw [List.getElem?_eq_getElem hi, e]
    have h1 := hf.sub hi
    have h2 := cutAble_of_fit d (sub l i) h1.2.2.1 (.inr (by omega)) (by omega) (Ke.KS.sub hs hi)
    rw [hsub] at h1 h2
    exact ⟨h1.1, by omega, h2⟩

theorem keys_ins (l : Nd 0) (k : Key) (v : Rid) : keys (insL l k v) = (keys l).take (pos (keys l) k) ++ k :: (keys l).drop (if hasK (keys l) k then pos (keys l) k + 1 else pos (keys l) k) := by
  unfold insL
  rw [keys_append, ← keys_take]
  congr 1
  show k :: keys (l.drop _) = _
  rw [← keys_drop]
theorem KS_ins {l : Nd 0} (hs : KS (keys l)) (k : Key) (v : Rid) : KS (keys (insL l k v)) := by
  rw [keys_ins]
  have h1 := take_low (keys l) k
  have h2 := drop_high hs k
  refine List.pairwise_append.2 ⟨hs.sublist (List.take_sublist _ _), List.pairwise_cons.2 ⟨h2, hs.sublist (List.drop_sublist _ _)⟩, fun a ha b hb => ?_⟩
  rcases List.mem_cons.1 hb with rfl | hb
  · exact h1 a ha
  · exact bl_trans (h1 a ha) (h2 b hb)
theorem KS_del {l : Nd 0} (hs : KS (keys l)) (k : Key) : KS (keys (delL l k)) := by
  unfold delL
  split
  · obtain ⟨p, hp⟩ : ∃ p, pos (keys l) k = p := ⟨_, rfl⟩
    rw [hp]
    refine List.Pairwise.sublist ?_ hs
    refine List.Sublist.map _ ?_
    conv => rhs; rw [← List.take_append_drop p l]
    refine List.Sublist.append (List.Sublist.refl _) ?_
    rw [← List.drop_drop]
    exact List.drop_sublist _ _
  · exact hs
theorem insL_length' {l : Nd 0} (k : Key) (v : Rid) : (insL l k v).length = l.length + (if hasK (keys l) k then 0 else 1) := by
  have h := pos_le (keys l) k
  rw [keys_length] at h
  unfold insL
  simp only [List.length_append, List.length_take, List.length_cons, List.length_drop]
  cases hk : hasK (keys l) k with
  | true => have := hasK_lt hk; rw [keys_length] at this; simp only [if_true]; omega
  | false => simp only [Bool.false_eq_true, if_false]; omega
theorem delL_length' {l : Nd 0} (k : Key) : (delL l k).length + (if hasK (keys l) k then 1 else 0) = l.length := by
  unfold delL
  cases hk : hasK (keys l) k with
  | true =>
    have := hasK_lt hk
    rw [keys_length] at this
    simp only [if_true, List.length_append, List.length_take, List.length_drop]
    omega
  | false => simp only [Bool.false_eq_true, if_false]; omega

/-- The root of a balanced tree. -/
structure Good (d : Nat) (x : Nd d) : Prop where
  fit : Fit d x
  four : x.length ≤ 4
  two : d = 0 ∨ 2 ≤ x.length
  ks : KS (keys (flat d x))
theorem Good.nonempty {d : Nat} {x : Nd d} (h : Good d x) : d = 0 ∨ 0 < x.length := by have := h.two; omega
theorem good_put_small {d : Nat} {x : Nd d} (h : Good d x) (k : Key) (v : Rid) (h4 : (putM d x k v).length ≤ 4) : Good d (putM d x k v) := by
  have h1 := putM_length d x k v h.nonempty
  exact ⟨fit_put d x k v h.fit h.nonempty, h4, by have := h.two; omega, by rw [(flat_put d x k v h.fit h.nonempty h.ks).1]; exact KS_ins h.ks k v⟩
theorem good_put_great {d : Nat} {x : Nd d} (h : Good d x) (k : Key) (v : Rid) (h4 : ¬ (putM d x k v).length ≤ 4) : Good (d + 1) (parted (putM d x k v)) ∧ flat (d + 1) (parted (putM d x k v)) = insL (flat d x) k v := by
  have h1 := putM_length d x k v h.nonempty
  have h2 := h.four
  have h3 := flat_parted (putM d x k v)
  rw [(flat_put d x k v h.fit h.nonempty h.ks).1] at h3
  refine ⟨⟨fit_parted (fit_put d x k v h.fit h.nonempty) (by omega) (by omega), ?_, .inr ?_, by rw [h3]; exact KS_ins h.ks k v⟩, h3⟩
  · have := (parted_length (putM d x k v)).2; omega
  · unfold parted
    rw [if_neg h4]
    exact Nat.le_refl 2
theorem good_cut {d : Nat} {x : Nd d} (h : Good d x) (k : Key) (h1 : d = 0 ∨ 2 ≤ (cutM d x k).length) : Good d (cutM d x k) := by
  have h2 := cutM_length d x k h.nonempty
  exact ⟨fit_cut d x k h.fit h.two, by have := h.four; omega, h1, by rw [(flat_cut d x k h.fit h.nonempty h.ks).1]; exact KS_del h.ks k⟩
/-- A root with one child is left for it. -/
theorem good_down {d : Nat} {x : Nd (d + 1)} (hf : Fit (d + 1) x) (h1 : x.length = 1) (hs : KS (keys (flat (d + 1) x))) : Good d (sub x 0) ∧ flat d (sub x 0) = flat (d + 1) x := by
  have h2 := hf.sub (i := 0) (by omega)
  have e : flat d (sub x 0) = flat (d + 1) x := by
    rw [flat_split x 0 (by omega), List.take_zero, List.drop_eq_nil_of_le (by omega), flat_nil, List.nil_append, List.append_nil]
  exact ⟨⟨h2.2.2.1, h2.2.1, .inr h2.1, by rw [e]; exact hs⟩, e⟩
end Go.Proofs.YtedfijmaeoednaaGreatDoor.Ke

namespace Go.Proofs.YtedfijmaeoednaaGreatDoor.Ke
open Go.RowKit Go.Wh

theorem Keyed.still {d : Nat} {w0 w w' : World} {r : Nat} {ks : List Key} {rs : List Nat} {cs : List (Nd d)} {F0 : List Nat} {Fs : List (List Nat)} {cv : Value} {j : Nat} (h : Keyed w0 w r ks rs cs F0 Fs cv j) (hs : Still w w') : Keyed w0 w' r ks rs cs F0 Fs cv j :=
  ⟨h.inr.still hs, h.len, h.le, h.done, h.only.trans hs.only, Still.cell hs h.kids⟩

set_option maxHeartbeats 1000000 in
set_option maxRecDepth 100000 in
theorem cut_in (d : Nat) (ih : ∀ (w : World) (r : Nat) (l : Nd d) (F : List Nat) (k : Key), At d w r l F → CutAble d l → Calls Tryz.prog 42 #[ptr r, .string k] w (CutPost d w r l F k))
    (w : World) (r : Nat) (l : Nd (d + 1)) (F : List Nat) (k : Key) (h : At (d + 1) w r l F) (ha : CutAble (d + 1) l) :
    Calls Tryz.prog 42 #[ptr r, .string k] w (CutPost (d + 1) w r l F k) := by
  obtain ⟨rs, F0, Fs, hin, hFF⟩ := h.inr
  have hlen : rs.length = l.length := by have := hin.kids.lenR; rw [subs_length] at this; exact this
  have hkl := keys_length l
  obtain ⟨i, hi⟩ : ∃ i, childI (keys l) k = i := ⟨_, rfl⟩
  have hil : i < l.length := by rw [← hi]; exact child_lt ha.1 k
  have hal := ha.2.1
  obtain ⟨ra, q, rb, Fa, f, Fb, rfl, rfl, hra, sa, hq, sb, hrq⟩ := hin.focus i (subs_split l i hil) (subs_length_take l i hil)
  obtain ⟨n, hn⟩ : ∃ n, l.length = n := ⟨_, rfl⟩
  obtain ⟨rs, hrs⟩ : ∃ rs, ra ++ ([q] ++ rb) = rs := ⟨_, rfl⟩
  have HIN := Lib.hid hin
  rw [hrs] at hlen hin hrq
  obtain ⟨g2, o2, p2, k0, k1⟩ := hin.raw.kids (by omega)
  rw [hlen, hn] at k0
  have c3 : w.cell? ⟨g2, o2 + i, none⟩ = some (.pointer (some ⟨q, 0, none⟩)) := k1 i q hrq
  have t1 : ((n : Int) == 0) = false := by rw [beq_eq_false_iff_ne]; omega
  have b0 : (0 : Int) ≤ (i : Int) := by omega
  have b1 : (i : Int) < (n : Int) := by omega
  have HC := Lib.hid (child_any w r (keys l) [] rs F0 k hin.raw (by omega) (by omega) (by omega))
  have HP := Lib.hid (ih w q (sub l i) f k hq (cutAble_child ha hil).2.2)
  rw [hi] at HC
  have HFF := Lib.hid hFF
  have HF := Lib.hid (And.intro hi (And.intro hil (And.intro hlen (And.intro hn (And.intro hrs (And.intro hra hrq))))))
  have HS := Lib.hid (And.intro sa sb)
  have HA := Lib.hid ha
  have HK := Lib.hid hkl
  clear h hFF hin hlen hkl hil hal hn hrs hra hrq sa sb hq k1 ha hi ih
  unfold ptr at HP HC ⊢
  go_enter Tryz.func42, Tryz.ntmps42
  go_wp2_with fail
  refine HC.out.mono ?_
  rintro e w ⟨rfl, rfl⟩
  go_wp2_with fail
  refine HP.out.mono ?_
  rintro e w1 ⟨f', rfl, hq1, ho1, hf1⟩
  have hcl := cutAble_child HA.out HF.out.2.1
  have hpl := cutM_length d (sub l i) k (.inr (by omega))
  obtain ⟨c', hc'⟩ : ∃ c', cutM d (sub l i) k = c' := ⟨_, rfl⟩
  rw [hc'] at hq1 hpl
  have hin1 : Inr d w1 r (keys l) rs rs (cutC (fun c => cutM d c k) l i) F0 (Fa ++ ([f'] ++ Fb)) := by
    have h1 := HIN.out
    rw [subs_split l i HF.out.2.1] at h1
    have h2 := h1.turn HS.out.1 HS.out.2 (Sons.one hq1) (by simpa using hq1.nodup) (by simpa using ho1) (fun b hb => by
      have hb' : b ∈ f' := by simpa using hb
      rcases hf1 b hb' with h3 | h3
      · exact .inl (by simpa using h3)
      · exact .inr h3)
    rw [HF.out.2.2.2.2.1] at h2
    show Inr d w1 r (keys l) rs rs (subs (l.take i) ++ ([cutM d (sub l i) k] ++ subs (l.drop (i + 1)))) F0 (Fa ++ ([f'] ++ Fb))
    rw [hc']
    exact h2
  have hfine := cutC_fine (k := k) HA.out HF.out.2.1
  have hcn : (cutC (fun c => cutM d c k) l i).length = n := by rw [cutC_length _ _ _ HF.out.2.1]; exact HF.out.2.2.2.1
  obtain ⟨cs, hcs⟩ : ∃ cs, cutC (fun c => cutM d c k) l i = cs := ⟨_, rfl⟩
  rw [hcs] at hin1 hfine hcn
  obtain ⟨g0, o0, p0, x0, xg, x1, x2⟩ := hin1.raw.keysAt (by have := HK.out; have := HF.out.2.1; omega)
  obtain ⟨g3, o3, p3, y0, y1⟩ := hin1.raw.kids (by have := HF.out.2.2.1; have := HF.out.2.1; omega)
  obtain ⟨gl, ol, nl, pl, l0, ln, l1, lr, lg⟩ := hq1.least (by omega)
  rw [HK.out, HF.out.2.2.2.1] at x0
  rw [HF.out.2.2.1, HF.out.2.2.2.1] at y0
  have y2 : w1.cell? ⟨g3, o3 + i, none⟩ = some (.pointer (some ⟨q, 0, none⟩)) := y1 i q HF.out.2.2.2.2.2.2
  obtain ⟨kold, hko⟩ : ∃ a, (keys l)[i]? = some a := ⟨_, List.getElem?_eq_getElem (by have := HK.out; have := HF.out.2.1; omega)⟩
  have x3 := x1 i _ hko
  have x4 := x3.1
  have x5 := x3.2
  have x6 := x2 i (fk c') (by have := HK.out; have := HF.out.2.1; omega)
  have hin2 : Inr d (w1.setCell ⟨g0, o0 + i, none⟩ (.string (fk c'))) r ((keys l).set i (fk c')) rs rs cs F0 (Fa ++ ([f'] ++ Fb)) :=
    hin1.rawTurn x6 (Raw.setKey_only w1 xg _ _) (fun b hb => .inl hb)
  have ho2 : Only (fun b => b ∈ F) w (w1.setCell ⟨g0, o0 + i, none⟩ (.string (fk c'))) := (ho1.mono fun b hb => by rw [HFF.out]; exact List.mem_append_right _ (List.mem_flatten.2 ⟨f, by simp, hb⟩)).setCell (p := ⟨g0, o0 + i, none⟩) (.inl (by rw [HFF.out]; exact List.mem_append_left _ xg)) _
  have hsub : ∀ b ∈ F0 ++ (Fa ++ ([f'] ++ Fb)).flatten, b ∈ F ∨ w.heap.size ≤ b := fun b hb => by
    rw [HFF.out]
    simp only [List.flatten_append, List.flatten_cons, List.flatten_nil, List.append_nil, List.mem_append] at hb ⊢
    rcases hb with hb | hb | hb | hb
    · exact .inl (.inl hb)
    · exact .inl (.inr (.inl hb))
    · rcases hf1 b hb with h | h
      · exact .inl (.inr (.inr (.inl h)))
      · exact .inr h
    · exact .inl (.inr (.inr (.inr hb)))
  obtain ⟨W2, hW2⟩ : ∃ W2, w1.setCell ⟨g0, o0 + i, none⟩ (.string (fk c')) = W2 := ⟨_, rfl⟩
  rw [hW2] at hin2 ho2
  have hn90 : n ≤ 90 := by have := HA.out.2.1; have := HF.out.2.2.2.1; omega
  have hin : i < n := by have := HF.out.2.1; have := HF.out.2.2.2.1; omega
  have hkn : ((keys l).set i (fk c')).length = n := by rw [List.length_set]; have := HK.out; have := HF.out.2.2.2.1; omega
  have HI2 := Lib.hid (And.intro ho2 (And.intro hsub (And.intro hfine (And.intro hcn (And.intro hcs (And.intro hin hn90))))))
  have JN := Lib.hid (fun w' (hs : Still W2 w') => join_any d w' r _ rs cs F0 (Fa ++ ([f'] ++ Fb)) i (hin2.still hs) (hkn.trans hcn.symm) (by omega) (by omega) (fun c hc => by have := hfine c hc; omega))
  unfold ptr at JN
  have hnl : decide ((nl : Int) > 0) = true := by simp; omega
  have hnl' : decide (0 < nl) = true := by simp; omega
  clear hko hin1 hin2 ho2 xg hpl hf1 hcl hc' hsub x6 x1 x2 x3 y1 hq1 ho1 lr lg hfine hcn hcs hn90 hin hkn
  generalize hkf : fk c' = kf at *
  clear hkf
  generalize hbf : cutB d (sub l i) k = bf at *
  have HBF := Lib.hid (show cutB (d + 1) l k = bf from by unfold cutB; rw [HF.out.1, hbf])
  clear hbf k0 c3
  go_wp2_with fail
  go_still_tail 18, (by kernel_rfl)
  go_wp2_with fail
  (with_reducible refine (JN.out _ ?_).mono ?_)
  · exact Only.drew (Only.refl _ _)
  rintro e w3 ⟨ks3, rs3, F3, Fs3, rfl, hin3, hk3, ho3, hf3⟩
  have hj0 := joinC_length cs i (by have := HI2.out.2.2.2.1; have := HI2.out.2.2.2.2.2.1; omega)
  have hjp := joinC_pos (cs := cs) (i := i) (by have := HI2.out.2.2.2.1; have := HI2.out.2.2.2.2.2.1; omega) (fun c hc => (HI2.out.2.2.1 c hc).1)
  have hcut : cutM (d + 1) l k = reKey (joinC cs i) := by unfold cutM; rw [HF.out.1, HI2.out.2.2.2.2.1]
  obtain ⟨js, hjs⟩ : ∃ js, joinC cs i = js := ⟨_, rfl⟩
  rw [hjs] at hin3 hk3 hj0 hjp hcut
  have hrl : rs3.length = js.length := hin3.kids.lenR
  obtain ⟨g5, o5, p5, z0, _⟩ := hin3.raw.kids (by omega)
  rw [hrl] at z0
  obtain ⟨m, hm⟩ : ∃ m, js.length = m := ⟨_, rfl⟩
  rw [hm] at z0
  have K0 : Keyed w3 w3 r ks3 rs3 js F3 Fs3 (.slice (some ⟨g5, o5, none⟩) m p5) 0 := ⟨hin3, hk3, Nat.zero_le _, fun t ht => by omega, Only.refl _ _, z0⟩
  have HK0 := Lib.hid K0
  have hm90 : m ≤ 90 := by have := HI2.out.2.2.2.1; have := HI2.out.2.2.2.2.2.2; omega
  have HJ := Lib.hid (And.intro hm (And.intro hjp hm90))
  have FIN := Lib.hid (fun ks' wr (hw : Keyed w3 wr r ks' rs3 js F3 Fs3 (.slice (some ⟨g5, o5, none⟩) m p5) m) => show CutPost (d + 1) w r l F k (.returned (.bool bf)) wr from by
    have h1 := hw
    rw [← hm] at h1
    have hall : ∀ b, b ∈ F3 ++ Fs3.flatten → b ∈ F ∨ w.heap.size ≤ b := fun b hb => by
      rcases hf3 b hb with h | h
      · exact HI2.out.2.1 b h
      · exact .inr (Nat.le_trans HI2.out.1.size h)
    refine ⟨_, by rw [HBF.out], by rw [hcut]; exact h1.all, (HI2.out.1.andThen (ho3.undrew) fun b hb hb' => ?_).andThen hw.only fun b hb hb' => ?_, hall⟩
    · rcases HI2.out.2.1 b hb' with h | h
      · exact h
      · omega
    · rcases hall b (List.mem_append_left _ hb') with h | h
      · exact h
      · omega)
  clear hin3 hk3 ho3 hf3 hj0 hjp hcut hjs hrl hm hm90 K0
  go_wp2_with fail
  go_loopw [99] (fun s wr => ∃ (j : Nat) (ks' : List Key), s = .int .i64 j ∧ j ≤ m ∧ Keyed w3 wr r ks' rs3 js F3 Fs3 (.slice (some ⟨g5, o5, none⟩) m p5) j) (fun s _ => m - (intOf s).toNat)
  case atStart => exact ⟨0, ks3, rfl, Nat.zero_le _, HK0.out⟩
  case round =>
    obtain ⟨j, ks', rfl, hjm, hK⟩ := hrel
    by_cases hj : j < m
    · obtain ⟨q, g, o, c, gl, ol, nl, pl, kf, kold, v1, v2, v3, v4, v5, v6, v7, v8⟩ := hK.step (by have := HJ.out.1; omega) HJ.out.2.1
      rw [HJ.out.1] at v2
      have HK1 := Lib.hid v8
      have a1 : (0 : Int) ≤ (j : Int) := by omega
      have a2 : (j : Int) < (m : Int) := by omega
      have a3 : decide ((j : Int) < (m : Int)) = true := by simp; omega
      have a4 : decide (j < m) = true := by simp; omega
      have u9 : IntKind.i64.wrap ((j : Int) + 1) = (j : Int) + 1 := IntWalk.i64_in _ (by have := HJ.out.2.2; omega)
      clear v8 hK
      go_wp2_with fail
      go_still_tail 12, (by kernel_rfl)
      go_wp2_with fail
      go_roundw
      case rel => exact ⟨j + 1, _, by go_num, by omega, HK1.out.still (Only.refl _ _).drew⟩
      case measure => simp [intOf]; omega
    · have hge : j = m := by omega
      subst hge
      have FN := Lib.hid (FIN.out _ _ hK)
      have a3 : decide ((j : Int) < (j : Int)) = false := by simp
      clear hK
      go_wp2_with fail
      go_ret
      exact FN.out

theorem cut_any : ∀ (d : Nat) (w : World) (r : Nat) (l : Nd d) (F : List Nat) (k : Key), At d w r l F → CutAble d l → Calls Tryz.prog 42 #[ptr r, .string k] w (CutPost d w r l F k)
  | 0, w, r, l, F, k, h, ha => cut_zero w r l F k h ha
  | d + 1, w, r, l, F, k, h, ha => cut_in d (cut_any d) w r l F k h ha

theorem put_any : ∀ (d : Nat) (w : World) (r : Nat) (l : Nd d) (F : List Nat) (k : Key) (v : Rid), At d w r l F → Able d l → Calls Tryz.prog 45 #[ptr r, .string k, ridV v] w (PutPost d w r l F k v)
  | 0, w, r, l, F, k, v, h, ha => put_zero w r l F k v h ha
  | d + 1, w, r, l, F, k, v, h, ha => put_in d (put_any d) w r l F k v h ha
end Go.Proofs.YtedfijmaeoednaaGreatDoor.Ke

namespace Go.Proofs.YtedfijmaeoednaaGreatDoor.Ke
open Go.RowKit Go.Wh

/-- A tree at t that has l, in order, and is made of the blocks F. -/
def TreeAt (w : World) (t : Nat) (l : Nd 0) (F : List Nat) : Prop :=
  ∃ d r, ∃ x : Nd d, ∃ G, cellsAt w t [ptr r, .int .i64 l.length] ∧ At d w r x G ∧ F = t :: G ∧ t ∉ G ∧ Good d x ∧ flat d x = l

theorem TreeAt.only {w w' : World} {t : Nat} {l : Nd 0} {F : List Nat} {S : Nat → Prop} (h : TreeAt w t l F) (ho : Only S w w') (hs : ∀ b ∈ F, ¬ S b) : TreeAt w' t l F := by
  obtain ⟨d, r, x, G, h1, h2, rfl, h4, h5, h6⟩ := h
  exact ⟨d, r, x, G, h1.only ho (hs t (by simp)), h2.only ho fun b hb => hs b (by simp [hb]), rfl, h4, h5, h6⟩
theorem TreeAt.still {w w' : World} {t : Nat} {l : Nd 0} {F : List Nat} (h : TreeAt w t l F) (ho : Still w w') : TreeAt w' t l F := h.only ho fun _ _ e => e
theorem TreeAt.lt {w : World} {t : Nat} {l : Nd 0} {F : List Nat} (h : TreeAt w t l F) : ∀ b ∈ F, b < w.heap.size := by
  obtain ⟨d, r, x, G, h1, h2, rfl, h4, h5, h6⟩ := h
  intro b hb
  rcases List.mem_cons.1 hb with rfl | hb
  · exact h1.lt
  · exact h2.lt b hb
theorem TreeAt.ks {w : World} {t : Nat} {l : Nd 0} {F : List Nat} (h : TreeAt w t l F) : KS (keys l) := by
  obtain ⟨d, r, x, G, h1, h2, h3, h4, h5, rfl⟩ := h
  exact h5.ks
theorem TreeAt.self {w : World} {t : Nat} {l : Nd 0} {F : List Nat} (h : TreeAt w t l F) : t ∈ F := by
  obtain ⟨d, r, x, G, h1, h2, rfl, h4, h5, h6⟩ := h
  simp

def NewPost (w : World) (e : Ending) (w' : World) : Prop := ∃ t F, e = .returned (ptr t) ∧ TreeAt w' t [] F ∧ Still w w' ∧ ∀ b ∈ F, w.heap.size ≤ b

theorem new_at (w : World) (t1 t2 : TypeId) : TreeAt ((w.alloc (.cells #[.slice none 0 0, .slice none 0 0, .slice none 0 0] t1)).alloc (.cells #[ptr w.heap.size, .int .i64 0] t2)) (w.heap.size + 1) [] [w.heap.size + 1, w.heap.size] := by
  have h1 := NodeAt.new (w := w) (ks := []) (kv := .slice none 0 0) t1 (Vec.nil _ _)
  have h2 := Raw.of h1 (Apt.new (by intro b e; cases e)) (by intro b hb; simp [foot, ownL, Value.ownBlock] at hb; simp [hb])
  refine ⟨0, w.heap.size, [], [w.heap.size], ?_, ?_, rfl, by simp, ⟨trivial, by simp, .inl rfl, List.Pairwise.nil⟩, rfl⟩
  · have := cellsAt_new (w.alloc (.cells #[.slice none 0 0, .slice none 0 0, .slice none 0 0] t1)) [ptr w.heap.size, .int .i64 0] t2
    simpa using this
  · have h3 : Raw (w.alloc (.cells #[.slice none 0 0, .slice none 0 0, .slice none 0 0] t1)) w.heap.size [] [] [] [w.heap.size] := by simpa [foot, ownL, Value.ownBlock] using h2
    exact h3.still ((Still.refl _).alloc _)

theorem make_any (w : World) : Calls Tryz.prog 24 #[] w (NewPost w) := by
  have H := Lib.hid (fun t1 t2 => new_at w t1 t2)
  go_enter Tryz.func24, Tryz.ntmps24
  go_wp2_with fail
  go_ret
  refine ⟨_, _, rfl, H.out _ _, ((Still.refl _).alloc _).alloc _, ?_⟩
  intro b hb
  simp at hb
  omega

end Go.Proofs.YtedfijmaeoednaaGreatDoor.Ke
