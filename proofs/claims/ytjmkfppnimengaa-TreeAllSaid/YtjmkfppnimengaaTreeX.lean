/- The law of a balanced tree, as lists: what is put, cut, got is put, cut, got of all that it has, in order; and it stays balanced. No program. No conditions. -/
import Derived.Test.YtjmkfppnimengaaTreeV
import Derived.Test.YtjmkfppnimengaaTreeB
namespace Go.Proofs.Ytjmkfppnimengaa
open Go.RowKit Go.Wh

theorem lt_of_lt_le {a b c : Key} (h1 : bl a b = true) (h2 : bl c b = false) : bl a c = true := by
  cases h : bl b c with
  | true => exact bl_trans h1 h
  | false => rw [← bl_total h h2]; exact h1
theorem lt_of_lt_first {a b c : Key} (h1 : bl a b = true) (h2 : b = c ∨ bl b c = true) : bl a c = true := by
  rcases h2 with rfl | h2
  · exact h1
  · exact bl_trans h1 h2

theorem takeWhile_all {α : Type} {p : α → Bool} : ∀ {A B : List α}, (∀ a ∈ A, p a = true) → (A ++ B).takeWhile p = A ++ B.takeWhile p
  | [], _, _ => rfl
  | a :: A, B, h => by
    rw [List.cons_append, List.takeWhile_cons, if_pos (h a (by simp)), takeWhile_all fun x hx => h x (by simp [hx])]
    rfl
theorem takeWhile_none {α : Type} {p : α → Bool} {B : List α} (h : ∀ b ∈ B, p b = false) : B.takeWhile p = [] := by
  cases B with
  | nil => rfl
  | cons b B => rw [List.takeWhile_cons, h b (by simp)]; rfl
theorem takeWhile_end {α : Type} {p : α → Bool} : ∀ {A B : List α}, (∀ b ∈ B, p b = false) → (A ++ B).takeWhile p = A.takeWhile p
  | [], _, h => takeWhile_none h
  | a :: A, B, h => by
    rw [List.cons_append, List.takeWhile_cons, List.takeWhile_cons, takeWhile_end h]

theorem pos_mid {A C B : List Key} {k : Key} (ha : ∀ a ∈ A, bl a k = true) (hb : ∀ b ∈ B, bl k b = true) : pos (A ++ (C ++ B)) k = A.length + pos C k := by
  unfold pos
  rw [takeWhile_all ha, takeWhile_end fun b h => bl_asymm (hb b h), List.length_append]
theorem hasK_mid {A C B : List Key} {k : Key} (ha : ∀ a ∈ A, bl a k = true) (hb : ∀ b ∈ B, bl k b = true) : hasK (A ++ (C ++ B)) k = hasK C k := by
  have hp := pos_le C k
  unfold hasK
  rw [pos_mid ha hb, List.getElem?_append_right (by omega), Nat.add_sub_cancel_left]
  rcases Nat.lt_or_ge (pos C k) C.length with h | h
  · rw [List.getElem?_append_left h]
  · have e : pos C k = C.length := by omega
    rw [e, List.getElem?_append_right (Nat.le_refl _), Nat.sub_self, List.getElem?_eq_none (Nat.le_refl _)]
    cases B with
    | nil => rfl
    | cons b B =>
      have := hb b (by simp)
      have hne : b ≠ k := fun e => by rw [e, bl_irrefl] at this; cases this
      simp [hne]

theorem hasK_lt {l : List Key} {k : Key} (h : hasK l k = true) : pos l k < l.length := by
  have hg : l[pos l k]? = some k := by simpa [hasK] using h
  exact (List.getElem?_eq_some_iff.1 hg).1

section
variable {A C B : Nd 0} {k : Key}
theorem insL_mid (v : Rid) (ha : ∀ a ∈ keys A, bl a k = true) (hb : ∀ b ∈ keys B, bl k b = true) : insL (A ++ (C ++ B)) k v = A ++ (insL C k v ++ B) := by
  have hp := pos_le (keys C) k
  rw [keys_length] at hp
  unfold insL
  rw [keys_append, keys_append, pos_mid ha hb, hasK_mid ha hb, keys_length]
  have e1 : (A ++ (C ++ B)).take (A.length + pos (keys C) k) = A ++ C.take (pos (keys C) k) := by
    rw [List.take_append, List.take_of_length_le (by omega), Nat.add_sub_cancel_left, List.take_append_of_le_length hp]
  have e2 : ∀ q, q ≤ C.length → (A ++ (C ++ B)).drop (A.length + q) = C.drop q ++ B := fun q hq => by
    rw [List.drop_append, List.drop_eq_nil_of_le (by omega), Nat.add_sub_cancel_left, List.drop_append_of_le_length hq]
    rfl
  rw [e1]
  cases hk : hasK (keys C) k with
  | true =>
    have := hasK_lt hk
    rw [keys_length] at this
    simp only [if_true]
    rw [Nat.add_assoc, e2 _ (by omega)]
    simp
  | false =>
    simp only [Bool.false_eq_true, if_false]
    rw [e2 _ hp]
    simp
theorem delL_mid (ha : ∀ a ∈ keys A, bl a k = true) (hb : ∀ b ∈ keys B, bl k b = true) : delL (A ++ (C ++ B)) k = A ++ (delL C k ++ B) := by
  have hp := pos_le (keys C) k
  rw [keys_length] at hp
  unfold delL
  rw [keys_append, keys_append, pos_mid ha hb, hasK_mid ha hb, keys_length]
  have e1 : (A ++ (C ++ B)).take (A.length + pos (keys C) k) = A ++ C.take (pos (keys C) k) := by
    rw [List.take_append, List.take_of_length_le (by omega), Nat.add_sub_cancel_left, List.take_append_of_le_length hp]
  have e2 : ∀ q, q ≤ C.length → (A ++ (C ++ B)).drop (A.length + q) = C.drop q ++ B := fun q hq => by
    rw [List.drop_append, List.drop_eq_nil_of_le (by omega), Nat.add_sub_cancel_left, List.drop_append_of_le_length hq]
    rfl
  cases hk : hasK (keys C) k with
  | true =>
    have := hasK_lt hk
    rw [keys_length] at this
    simp only [if_true]
    rw [e1, Nat.add_assoc, e2 _ (by omega)]
    simp
  | false =>
    simp only [Bool.false_eq_true, if_false]

/-- What stands by a key. -/
def getL (l : Nd 0) (k : Key) : Option Rid := if hasK (keys l) k then (vals l)[pos (keys l) k]? else none
theorem getL_mid (ha : ∀ a ∈ keys A, bl a k = true) (hb : ∀ b ∈ keys B, bl k b = true) : getL (A ++ (C ++ B)) k = getL C k := by
  unfold getL
  rw [keys_append, keys_append, pos_mid ha hb, hasK_mid ha hb, keys_length]
  cases hk : hasK (keys C) k with
  | true =>
    have := hasK_lt hk
    rw [keys_length] at this
    simp only [if_true]
    rw [vals_append, vals_append, List.getElem?_append_right (by rw [vals_length]; omega), vals_length, Nat.add_sub_cancel_left, List.getElem?_append_left (by rw [vals_length]; omega)]
  | false => rfl
theorem drop_mid (ha : ∀ a ∈ keys A, bl a k = true) (hb : ∀ b ∈ keys B, bl k b = true) : (A ++ (C ++ B)).drop (pos (keys (A ++ (C ++ B))) k) = C.drop (pos (keys C) k) ++ B := by
  have hp := pos_le (keys C) k
  rw [keys_length] at hp
  rw [keys_append, keys_append, pos_mid ha hb, keys_length, List.drop_append, List.drop_eq_nil_of_le (by omega), Nat.add_sub_cancel_left, List.drop_append_of_le_length hp]
  rfl
end

theorem flat_append (d : Nat) (a b : Nd (d + 1)) : flat (d + 1) (a ++ b) = flat (d + 1) a ++ flat (d + 1) b := List.flatMap_append
theorem flat_cons {d : Nat} (x : Key × E (d + 1)) (l : Nd (d + 1)) : flat (d + 1) (x :: l) = flat d (nd x) ++ flat (d + 1) l := List.flatMap_cons
theorem flat_nil (d : Nat) : flat (d + 1) [] = [] := rfl
theorem flat_one {d : Nat} (x : Key × E (d + 1)) : flat (d + 1) [x] = flat d (nd x) := by
  rw [flat_cons, flat_nil, List.append_nil]
theorem flat_take_drop : ∀ (d : Nat) (l : Nd d) (m : Nat), flat d (l.take m) ++ flat d (l.drop m) = flat d l
  | 0, l, m => List.take_append_drop m l
  | d + 1, l, m => by rw [← flat_append, List.take_append_drop]
theorem flat_app : ∀ (d : Nat) (a b : Nd d), flat d (a ++ b) = flat d a ++ flat d b
  | 0, _, _ => rfl
  | d + 1, a, b => flat_append d a b

theorem split_at_i {d : Nat} (l : Nd (d + 1)) (i : Nat) (hi : i < l.length) : ∃ x, x ∈ l ∧ l[i]? = some x ∧ nd x = sub l i ∧ l = l.take i ++ (x :: l.drop (i + 1)) := by
  refine ⟨l[i], List.getElem_mem hi, List.getElem?_eq_getElem hi, ?_, ?_⟩
  · unfold sub
    rw [List.getElem?_eq_getElem hi]
  · conv => lhs; rw [← List.take_append_drop i l, List.drop_eq_getElem_cons hi]
theorem flat_split {d : Nat} (l : Nd (d + 1)) (i : Nat) (hi : i < l.length) : flat (d + 1) l = flat (d + 1) (l.take i) ++ (flat d (sub l i) ++ flat (d + 1) (l.drop (i + 1))) := by
  obtain ⟨x, _, _, hx, e⟩ := split_at_i l i hi
  conv => lhs; rw [e]
  rw [flat_append, flat_cons, hx]

/-- The least key is the first of all. -/
theorem fk_first : ∀ (d : Nat) (c : Nd d), Fit d c → 0 < c.length → ∃ t, keys (flat d c) = fk c :: t
  | 0, c, _, h => by
    unfold fk flat
    cases hk : keys c with
    | nil =>
      have := keys_length c
      rw [hk] at this
      simp at this
      omega
    | cons a t => exact ⟨t, rfl⟩
  | d + 1, c, hf, h => by
    cases c with
    | nil => simp at h
    | cons x c =>
      have h1 := hf x (by simp)
      obtain ⟨t, ht⟩ := fk_first d (nd x) h1.2.2.2 (by omega)
      have e : fk (x :: c) = x.1 := rfl
      exact ⟨t ++ keys (flat (d + 1) c), by rw [flat_cons, keys_append, ht, e, h1.2.2.1]; rfl⟩

theorem Fit.sub {d : Nat} {l : Nd (d + 1)} (h : Fit (d + 1) l) {i : Nat} (hi : i < l.length) : 2 ≤ (Proofs.Ytjmkfppnimengaa.sub l i).length ∧ (Proofs.Ytjmkfppnimengaa.sub l i).length ≤ 4 ∧ Fit d (Proofs.Ytjmkfppnimengaa.sub l i) ∧ (keys l)[i]? = some (fk (Proofs.Ytjmkfppnimengaa.sub l i)) := by
  obtain ⟨x, hx, hg, e, _⟩ := split_at_i l i hi
  have := h x hx
  rw [e] at this
  refine ⟨this.1, this.2.1, this.2.2.2, ?_⟩
  unfold keys
  rw [List.getElem?_map, hg, ← this.2.2.1]
  rfl

/-- All ahead of the key's child is less, all behind it is greater. -/
theorem child_split {d : Nat} {l : Nd (d + 1)} (hf : Fit (d + 1) l) (h0 : 0 < l.length) (hs : KS (keys (flat (d + 1) l))) (k : Key) :
    (∀ a ∈ keys (flat (d + 1) (l.take (childI (keys l) k))), bl a k = true) ∧ ∀ b ∈ keys (flat (d + 1) (l.drop (childI (keys l) k + 1))), bl k b = true := by
  have hi := child_lt h0 k
  obtain ⟨i, hie⟩ : ∃ i, childI (keys l) k = i := ⟨_, rfl⟩
  have hat := fun (j : Nat) (a : Key) => childI_at (ks := keys l) (k := k) (a := a) (i := j)
  rw [hie] at hi ⊢
  simp only [hie] at hat
  have hsp := flat_split l i hi
  rw [hsp, keys_append, keys_append] at hs
  have hs1 := List.pairwise_append.1 hs
  have hs2 := List.pairwise_append.1 hs1.2.1
  refine ⟨fun a ha => ?_, fun b hb => ?_⟩
  · cases i with
    | zero => simp [keys, flat] at ha
    | succ i =>
      have h1 := hf.sub hi
      obtain ⟨t, ht⟩ := fk_first d (Proofs.Ytjmkfppnimengaa.sub l (i + 1)) h1.2.2.1 (by omega)
      have h2 := hs1.2.2 a ha (fk (Proofs.Ytjmkfppnimengaa.sub l (i + 1))) (by rw [ht]; simp)
      exact lt_of_lt_le h2 ((hat i _ (by omega) h1.2.2.2).2 (by omega))
  · rcases Nat.lt_or_ge (i + 1) l.length with h | h
    · have h1 := hf.sub h
      obtain ⟨t, ht⟩ := fk_first d (Proofs.Ytjmkfppnimengaa.sub l (i + 1)) h1.2.2.1 (by omega)
      have h2 : bl k (fk (Proofs.Ytjmkfppnimengaa.sub l (i + 1))) = true := by
        cases hb' : bl k (fk (Proofs.Ytjmkfppnimengaa.sub l (i + 1))) with
        | true => rfl
        | false => have := (hat i _ (Nat.le_refl _) h1.2.2.2).1 hb'; omega
      have h3 := flat_split (l.drop (i + 1)) 0 (by rw [List.length_drop]; omega)
      have h4 : Proofs.Ytjmkfppnimengaa.sub (l.drop (i + 1)) 0 = Proofs.Ytjmkfppnimengaa.sub l (i + 1) := by
        unfold Proofs.Ytjmkfppnimengaa.sub
        rw [List.getElem?_drop]
      rw [h4, List.take_zero, flat_nil, List.nil_append] at h3
      have hks := hs2.2.1
      rw [h3, keys_append, ht, List.cons_append] at hb hks
      rcases List.mem_cons.1 hb with rfl | hb
      · exact h2
      · exact bl_trans h2 ((List.pairwise_cons.1 hks).1 b hb)
    · rw [List.drop_eq_nil_of_le h] at hb
      simp [keys, flat] at hb

theorem KS.part {A C B : Nd 0} (h : KS (keys (A ++ (C ++ B)))) : KS (keys C) := by
  rw [keys_append, keys_append] at h
  exact (List.pairwise_append.1 (List.pairwise_append.1 h).2.1).1
theorem KS.sub {d : Nat} {l : Nd (d + 1)} (h : KS (keys (flat (d + 1) l))) {i : Nat} (hi : i < l.length) : KS (keys (flat d (Proofs.Ytjmkfppnimengaa.sub l i))) := by
  rw [flat_split l i hi] at h
  exact h.part

theorem flat_parted {d : Nat} (c : Nd d) : flat (d + 1) (parted c) = flat d c := by
  unfold parted
  split
  · rw [flat_one]; rfl
  · rw [flat_cons, flat_one]
    exact flat_take_drop d c _

/-- Put. -/
theorem flat_put : ∀ (d : Nat) (l : Nd d) (k : Key) (v : Rid), Fit d l → (d = 0 ∨ 0 < l.length) → KS (keys (flat d l)) → flat d (putM d l k v) = insL (flat d l) k v ∧ putB d l k = !hasK (keys (flat d l)) k
  | 0, l, k, v, _, _, _ => ⟨rfl, rfl⟩
  | d + 1, l, k, v, hf, h0, hs => by
    have h0' : 0 < l.length := by omega
    have hi := child_lt h0' k
    obtain ⟨ha, hb⟩ := child_split hf h0' hs k
    have hsub := hf.sub hi
    have ih := flat_put d (sub l (childI (keys l) k)) k v hsub.2.2.1 (.inr (by omega)) (hs.sub hi)
    have e := flat_split l _ hi
    refine ⟨?_, ?_⟩
    · unfold putM
      rw [flat_append, flat_append, flat_parted, ih.1, e, insL_mid v ha hb]
    · unfold putB
      rw [ih.2, e, keys_append, keys_append, hasK_mid ha hb]

/-- Got. -/
def getM : (d : Nat) → Nd d → Key → Option Rid
  | 0, l, k => getL l k
  | d + 1, l, k => getM d (sub l (childI (keys l) k)) k
theorem flat_get : ∀ (d : Nat) (l : Nd d) (k : Key), Fit d l → (d = 0 ∨ 0 < l.length) → KS (keys (flat d l)) → getM d l k = getL (flat d l) k
  | 0, _, _, _, _, _ => rfl
  | d + 1, l, k, hf, h0, hs => by
    have h0' : 0 < l.length := by omega
    have hi := child_lt h0' k
    obtain ⟨ha, hb⟩ := child_split hf h0' hs k
    have hsub := hf.sub hi
    have ih := flat_get d (sub l (childI (keys l) k)) k hsub.2.2.1 (.inr (by omega)) (hs.sub hi)
    unfold getM
    rw [ih, flat_split l _ hi, getL_mid ha hb]

/-- All children of a row. -/
def flatC {d : Nat} (cs : List (Nd d)) : Nd 0 := cs.flatMap (flat d)
theorem flatC_append {d : Nat} (a b : List (Nd d)) : flatC (a ++ b) = flatC a ++ flatC b := List.flatMap_append
theorem flatC_one {d : Nat} (c : Nd d) : flatC [c] = flat d c := by simp [flatC]
theorem flatC_two {d : Nat} (a b : Nd d) : flatC [a, b] = flat d a ++ flat d b := by simp [flatC]
theorem flatC_subs {d : Nat} (l : Nd (d + 1)) : flatC (subs l) = flat (d + 1) l := by
  induction l with
  | nil => rfl
  | cons x l ih =>
    rw [flat_cons, ← ih]
    rfl
theorem flat_reKey {d : Nat} (cs : List (Nd d)) : flat (d + 1) (reKey cs) = flatC cs := by
  rw [← flatC_subs, subs_reKey]
theorem flatC_halves {d : Nat} (c : Nd d) : flatC (halves c) = flat d c := by
  unfold halves
  split
  · exact flatC_one c
  · rw [flatC_two, flat_take_drop]
theorem flatC_join {d : Nat} (cs : List (Nd d)) (i : Nat) (hi : i < cs.length) : flatC (joinC cs i) = flatC cs := by
  unfold joinC
  split
  · rfl
  · have e := at_split2 cs (i - 1) (by omega)
    conv => rhs; rw [e]
    rw [flatC_append, flatC_append, flatC_append, flatC_append, flatC_halves, flatC_two, flat_app]
theorem flat_cut : ∀ (d : Nat) (l : Nd d) (k : Key), Fit d l → (d = 0 ∨ 0 < l.length) → KS (keys (flat d l)) → flat d (cutM d l k) = delL (flat d l) k ∧ cutB d l k = hasK (keys (flat d l)) k
  | 0, l, k, _, _, _ => ⟨rfl, rfl⟩
  | d + 1, l, k, hf, h0, hs => by
    have h0' : 0 < l.length := by omega
    have hi := child_lt h0' k
    obtain ⟨ha, hb⟩ := child_split hf h0' hs k
    have hsub := hf.sub hi
    have ih := flat_cut d (sub l (childI (keys l) k)) k hsub.2.2.1 (.inr (by omega)) (hs.sub hi)
    have e := flat_split l _ hi
    refine ⟨?_, ?_⟩
    · unfold cutM
      rw [flat_reKey, flatC_join _ _ (by rw [cutC_length _ _ _ hi]; exact hi)]
      unfold cutC
      rw [flatC_append, flatC_append, flatC_one, flatC_subs, flatC_subs, ih.1, e, delL_mid ha hb]
    · unfold cutB
      rw [ih.2, e, keys_append, keys_append, hasK_mid ha hb]

/-- What the nodes are. -/
theorem Fit.part {d : Nat} {l : Nd d} (h : Fit d l) {l' : Nd d} (hm : ∀ x ∈ l', x ∈ l) : Fit d l' := by
  cases d with
  | zero => trivial
  | succ d => exact fun x hx => h x (hm x hx)
theorem Fit.append {d : Nat} {a b : Nd d} (ha : Fit d a) (hb : Fit d b) : Fit d (a ++ b) := by
  cases d with
  | zero => trivial
  | succ d =>
    intro x hx
    rcases List.mem_append.1 hx with h | h
    · exact ha x h
    · exact hb x h
theorem fit_parted {d : Nat} {c : Nd d} (h : Fit d c) (h2 : 2 ≤ c.length) (h5 : c.length ≤ 5) : Fit (d + 1) (parted c) := by
  unfold parted
  split
  · intro x hx
    simp at hx
    subst hx
    exact ⟨h2, by assumption, rfl, h⟩
  · intro x hx
    simp only [List.mem_cons, List.not_mem_nil, or_false] at hx
    rcases hx with rfl | rfl
    · refine ⟨?_, ?_, rfl, h.part fun x hx => List.mem_of_mem_take hx⟩
      · show 2 ≤ (c.take (c.length / 2)).length
        rw [List.length_take]; omega
      · show (c.take (c.length / 2)).length ≤ 4
        rw [List.length_take]; omega
    · refine ⟨?_, ?_, rfl, h.part fun x hx => List.mem_of_mem_drop hx⟩
      · show 2 ≤ (c.drop (c.length / 2)).length
        rw [List.length_drop]; omega
      · show (c.drop (c.length / 2)).length ≤ 4
        rw [List.length_drop]; omega
theorem fit_put : ∀ (d : Nat) (l : Nd d) (k : Key) (v : Rid), Fit d l → (d = 0 ∨ 0 < l.length) → Fit d (putM d l k v)
  | 0, _, _, _, _, _ => trivial
  | d + 1, l, k, v, hf, h0 => by
    have hi := child_lt (show 0 < l.length by omega) k
    have hsub := hf.sub hi
    have ih := fit_put d (sub l (childI (keys l) k)) k v hsub.2.2.1 (.inr (by omega))
    have hl := putM_length d (sub l (childI (keys l) k)) k v (.inr (by omega))
    unfold putM
    exact (hf.part fun x hx => List.mem_of_mem_take hx).append ((fit_parted ih (by omega) (by omega)).append (hf.part fun x hx => List.mem_of_mem_drop hx))

/-- A child may be one too small. -/
def Fine {d : Nat} (cs : List (Nd d)) : Prop := ∀ c ∈ cs, 2 ≤ c.length ∧ c.length ≤ 4 ∧ Fit d c
theorem fit_reKey {d : Nat} {cs : List (Nd d)} (h : Fine cs) : Fit (d + 1) (reKey cs) := by
  intro x hx
  obtain ⟨c, hc, rfl⟩ := List.mem_map.1 hx
  exact ⟨(h c hc).1, (h c hc).2.1, rfl, (h c hc).2.2⟩
theorem fine_halves {d : Nat} {c : Nd d} (h : Fit d c) (h2 : 2 ≤ c.length) (h5 : c.length ≤ 5) : Fine (halves c) := by
  unfold halves
  split
  · intro x hx
    simp at hx
    subst hx
    exact ⟨h2, by assumption, h⟩
  · intro x hx
    simp only [List.mem_cons, List.not_mem_nil, or_false] at hx
    rcases hx with rfl | rfl
    · exact ⟨by rw [List.length_take]; omega, by rw [List.length_take]; omega, h.part fun x hx => List.mem_of_mem_take hx⟩
    · exact ⟨by rw [List.length_drop]; omega, by rw [List.length_drop]; omega, h.part fun x hx => List.mem_of_mem_drop hx⟩
theorem at_other {d : Nat} {A B : List (Nd d)} {c : Nd d} {j : Nat} (hj : j < (A ++ ([c] ++ B)).length) (hne : j ≠ A.length) : at' (A ++ ([c] ++ B)) j ∈ A ∨ at' (A ++ ([c] ++ B)) j ∈ B := by
  unfold at'
  rcases Nat.lt_or_ge j A.length with h | h
  · rw [List.getElem?_append_left h, List.getElem?_eq_getElem h]
    exact .inl (List.getElem_mem h)
  · have h1 : 1 ≤ j - A.length := by omega
    have h2 : j - A.length - 1 < B.length := by simp at hj; omega
    rw [List.getElem?_append_right h, List.getElem?_append_right (by simpa using h1), List.length_singleton, List.getElem?_eq_getElem h2]
    exact .inr (List.getElem_mem h2)
theorem at_this {d : Nat} {A B : List (Nd d)} {c : Nd d} : at' (A ++ ([c] ++ B)) A.length = c := by
  unfold at'
  rw [List.getElem?_append_right (Nat.le_refl _), Nat.sub_self]
  rfl
theorem fine_join {d : Nat} {A B : List (Nd d)} {c : Nd d} (hA : Fine A) (hB : Fine B) (hc : 1 ≤ c.length ∧ c.length ≤ 4 ∧ Fit d c) (h2 : 2 ≤ (A ++ ([c] ++ B)).length) : Fine (joinC (A ++ ([c] ++ B)) A.length) := by
  unfold joinC
  rw [at_this]
  split
  · rename_i h
    intro x hx
    rcases List.mem_append.1 hx with hx | hx
    · exact hA x hx
    · rcases List.mem_append.1 hx with hx | hx
      · simp at hx
        subst hx
        exact ⟨by omega, hc.2⟩
      · exact hB x hx
  · rename_i h
    have hlen : (A ++ ([c] ++ B)).length = A.length + (1 + B.length) := by simp; omega
    have hj : A.length - 1 + 1 < (A ++ ([c] ++ B)).length := by omega
    have hcl : c.length = 1 := by omega
    have hpair : ∃ a b, at' (A ++ ([c] ++ B)) (A.length - 1) = a ∧ at' (A ++ ([c] ++ B)) (A.length - 1 + 1) = b ∧ ((a = c ∧ (b ∈ A ∨ b ∈ B)) ∨ (b = c ∧ (a ∈ A ∨ a ∈ B))) := by
      refine ⟨_, _, rfl, rfl, ?_⟩
      rcases Nat.eq_zero_or_pos A.length with h0 | h0
      · refine .inl ⟨?_, at_other hj (by omega)⟩
        rw [show A.length - 1 = A.length by omega]
        exact at_this
      · refine .inr ⟨?_, at_other (by omega) (by omega)⟩
        rw [show A.length - 1 + 1 = A.length by omega]
        exact at_this
    obtain ⟨a, b, ea, eb, hab⟩ := hpair
    rw [ea, eb]
    have hfine : ∀ x, x ∈ A ∨ x ∈ B → 2 ≤ x.length ∧ x.length ≤ 4 ∧ Fit d x := fun x hx => hx.elim (hA x) (hB x)
    have hh : Fine (halves (a ++ b)) := by
      rcases hab with ⟨rfl, hb⟩ | ⟨rfl, ha⟩
      · have := hfine b hb
        exact fine_halves (hc.2.2.append this.2.2) (by rw [List.length_append]; omega) (by rw [List.length_append]; omega)
      · have := hfine a ha
        exact fine_halves (this.2.2.append hc.2.2) (by rw [List.length_append]; omega) (by rw [List.length_append]; omega)
    intro x hx
    rcases List.mem_append.1 hx with hx | hx
    · rcases Nat.eq_zero_or_pos A.length with h0 | h0
      · rw [show A.length - 1 = 0 by omega] at hx
        simp at hx
      · rw [List.take_append_of_le_length (by omega)] at hx
        exact hA x (List.mem_of_mem_take hx)
    · rcases List.mem_append.1 hx with hx | hx
      · exact hh x hx
      · rcases Nat.eq_zero_or_pos A.length with h0 | h0
        · have hA0 : A = [] := List.length_eq_zero_iff.1 h0
          subst hA0
          exact hB x (List.mem_of_mem_tail (by simpa using hx))
        · rw [show A.length - 1 + 2 = A.length + 1 by omega, ← List.append_assoc, List.drop_left' (by simp)] at hx
          exact hB x hx
theorem fine_subs {d : Nat} {l : Nd (d + 1)} (h : Fit (d + 1) l) : Fine (subs l) := fun c hc => by
  obtain ⟨x, hx, rfl⟩ := subs_mem hc
  exact ⟨(h x hx).1, (h x hx).2.1, (h x hx).2.2.2⟩
theorem fit_cut : ∀ (d : Nat) (l : Nd d) (k : Key), Fit d l → (d = 0 ∨ 2 ≤ l.length) → Fit d (cutM d l k)
  | 0, _, _, _, _ => trivial
  | d + 1, l, k, hf, h0 => by
    have hi := child_lt (show 0 < l.length by omega) k
    have hsub := hf.sub hi
    have ih := fit_cut d (sub l (childI (keys l) k)) k hsub.2.2.1 (.inr hsub.1)
    have hl := cutM_length d (sub l (childI (keys l) k)) k (.inr (by omega))
    unfold cutM
    have hA : Fine (subs (l.take (childI (keys l) k))) := fine_subs (hf.part fun x hx => List.mem_of_mem_take hx)
    have hB : Fine (subs (l.drop (childI (keys l) k + 1))) := fine_subs (hf.part fun x hx => List.mem_of_mem_drop hx)
    have h2 := cutC_length (fun c => cutM d c k) l (childI (keys l) k) hi
    unfold cutC at h2 ⊢
    have h3 := fine_join hA hB (c := cutM d (sub l (childI (keys l) k)) k) ⟨by omega, by omega, ih⟩ (by rw [h2]; omega)
    rw [subs_length_take l _ hi] at h3
    exact fit_reKey h3

/-- What the walks ask. -/
theorem able_of_fit : ∀ (d : Nat) (l : Nd d), Fit d l → (d = 0 ∨ 0 < l.length) → l.length ≤ 90 → KS (keys (flat d l)) → Able d l
  | 0, _, _, _, h90, hs => ⟨hs, h90⟩
  | d + 1, l, hf, h0, h90, hs => by
    refine ⟨by omega, h90, fun x hx => ?_⟩
    obtain ⟨i, hi, e⟩ := List.mem_iff_getElem.1 hx
    have hsub : sub l i = nd x := by
      unfold sub
      rw [List.getElem?_eq_getElem hi, e]
    have h1 := hf.sub hi
    have h2 := able_of_fit d (sub l i) h1.2.2.1 (.inr (by omega)) (by omega) (hs.sub hi)
    rwa [hsub] at h2
theorem cutAble_of_fit : ∀ (d : Nat) (l : Nd d), Fit d l → (d = 0 ∨ 0 < l.length) → l.length ≤ 90 → KS (keys (flat d l)) → CutAble d l
  | 0, _, _, _, h90, hs => ⟨hs, h90⟩
  | d + 1, l, hf, h0, h90, hs => by
    refine ⟨by omega, h90, fun x hx => ?_⟩
    obtain ⟨i, hi, e⟩ := List.mem_iff_getElem.1 hx
    have hsub : sub l i = nd x := by
      unfold sub
      rw [List.getElem?_eq_getElem hi, e]
    have h1 := hf.sub hi
    have h2 := cutAble_of_fit d (sub l i) h1.2.2.1 (.inr (by omega)) (by omega) (hs.sub hi)
    rw [hsub] at h1 h2
    exact ⟨h1.1, by omega, h2⟩

theorem takeWhile_sat {α : Type} {p : α → Bool} : ∀ {l : List α} {a : α}, a ∈ l.takeWhile p → p a = true
  | [], _, h => by cases h
  | x :: l, a, h => by
    rw [List.takeWhile_cons] at h
    split at h
    · rcases List.mem_cons.1 h with rfl | h
      · assumption
      · exact takeWhile_sat h
    · cases h
theorem take_low (l : List Key) (k : Key) : ∀ a ∈ l.take (pos l k), bl a k = true := by
  intro a ha
  have e : l.take (pos l k) = l.takeWhile fun a => bl a k := by
    unfold pos
    conv => lhs; rw [← List.takeWhile_append_dropWhile (p := fun a => bl a k) (l := l)]
    rw [List.take_left' (by rw [List.takeWhile_append_dropWhile])]
  rw [e] at ha
  exact takeWhile_sat (p := fun a => bl a k) ha
theorem drop_high {l : List Key} (hs : KS l) (k : Key) : ∀ a ∈ l.drop (if hasK l k then pos l k + 1 else pos l k), bl k a = true := by
  have hfirst : ∀ b, l[pos l k]? = some b → b = k ∨ bl k b = true := fun b hb => by
    have h1 : bl b k = false := by
      cases h : bl b k with
      | false => rfl
      | true => have := (pos_lt hs k hb).1 h; omega
    cases h2 : bl k b with
    | true => exact .inr rfl
    | false => exact .inl (bl_total h1 h2)
  intro a ha
  obtain ⟨j, hj, e⟩ := List.mem_iff_getElem.1 ha
  rw [List.getElem_drop] at e
  rw [List.length_drop] at hj
  have hpair := List.pairwise_iff_getElem.1 hs
  cases hk : hasK l k with
  | true =>
    simp only [hk, if_true] at e hj
    have hg : l[pos l k]? = some k := by simpa [hasK] using hk
    have hlt := hasK_lt hk
    have h1 := hpair (pos l k) (pos l k + 1 + j) hlt (by omega) (by omega)
    rw [(List.getElem?_eq_some_iff.1 hg).2, e] at h1
    exact h1
  | false =>
    simp only [hk, Bool.false_eq_true, if_false] at e hj
    have hlt : pos l k < l.length := by omega
    have hg := List.getElem?_eq_getElem hlt
    have hne : l[pos l k] ≠ k := fun e => by
      rw [e] at hg
      have : hasK l k = true := by simp [hasK, hg]
      rw [this] at hk
      cases hk
    have h2 := (hfirst _ hg).resolve_left hne
    rcases Nat.eq_zero_or_pos j with h0 | h0
    · subst h0
      rw [← e]
      exact h2
    · have h1 := hpair (pos l k) (pos l k + j) hlt (by omega) (by omega)
      rw [e] at h1
      exact bl_trans h2 h1
theorem keys_ins (l : Nd 0) (k : Key) (v : Rid) : keys (insL l k v) = (keys l).take (pos (keys l) k) ++ k :: (keys l).drop (if hasK (keys l) k then pos (keys l) k + 1 else pos (keys l) k) := by
  unfold insL
  rw [keys_append, ← keys_take]
  congr 1
  show k :: keys (l.drop _) = _
  rw [← keys_drop]
theorem KS_ins {l : Nd 0} (hs : KS (keys l)) (k : Key) (v : Rid) : KS (keys (insL l k v)) := by
  rw [keys_ins]
  have h1 := take_low (keys l) k
  have h2 := drop_high hs k
  refine List.pairwise_append.2 ⟨hs.sublist (List.take_sublist _ _), List.pairwise_cons.2 ⟨h2, hs.sublist (List.drop_sublist _ _)⟩, fun a ha b hb => ?_⟩
  rcases List.mem_cons.1 hb with rfl | hb
  · exact h1 a ha
  · exact bl_trans (h1 a ha) (h2 b hb)
theorem KS_del {l : Nd 0} (hs : KS (keys l)) (k : Key) : KS (keys (delL l k)) := by
  unfold delL
  split
  · obtain ⟨p, hp⟩ : ∃ p, pos (keys l) k = p := ⟨_, rfl⟩
    rw [hp]
    refine List.Pairwise.sublist ?_ hs
    refine List.Sublist.map _ ?_
    conv => rhs; rw [← List.take_append_drop p l]
    refine List.Sublist.append (List.Sublist.refl _) ?_
    rw [← List.drop_drop]
    exact List.drop_sublist _ _
  · exact hs
theorem insL_length' {l : Nd 0} (k : Key) (v : Rid) : (insL l k v).length = l.length + (if hasK (keys l) k then 0 else 1) := by
  have h := pos_le (keys l) k
  rw [keys_length] at h
  unfold insL
  simp only [List.length_append, List.length_take, List.length_cons, List.length_drop]
  cases hk : hasK (keys l) k with
  | true => have := hasK_lt hk; rw [keys_length] at this; simp only [if_true]; omega
  | false => simp only [Bool.false_eq_true, if_false]; omega
theorem delL_length' {l : Nd 0} (k : Key) : (delL l k).length + (if hasK (keys l) k then 1 else 0) = l.length := by
  unfold delL
  cases hk : hasK (keys l) k with
  | true =>
    have := hasK_lt hk
    rw [keys_length] at this
    simp only [if_true, List.length_append, List.length_take, List.length_drop]
    omega
  | false => simp only [Bool.false_eq_true, if_false]; omega

/-- The root of a balanced tree. -/
structure Good (d : Nat) (x : Nd d) : Prop where
  fit : Fit d x
  four : x.length ≤ 4
  two : d = 0 ∨ 2 ≤ x.length
  ks : KS (keys (flat d x))
theorem Good.nonempty {d : Nat} {x : Nd d} (h : Good d x) : d = 0 ∨ 0 < x.length := by have := h.two; omega
theorem good_put_small {d : Nat} {x : Nd d} (h : Good d x) (k : Key) (v : Rid) (h4 : (putM d x k v).length ≤ 4) : Good d (putM d x k v) := by
  have h1 := putM_length d x k v h.nonempty
  exact ⟨fit_put d x k v h.fit h.nonempty, h4, by have := h.two; omega, by rw [(flat_put d x k v h.fit h.nonempty h.ks).1]; exact KS_ins h.ks k v⟩
theorem good_put_great {d : Nat} {x : Nd d} (h : Good d x) (k : Key) (v : Rid) (h4 : ¬ (putM d x k v).length ≤ 4) : Good (d + 1) (parted (putM d x k v)) ∧ flat (d + 1) (parted (putM d x k v)) = insL (flat d x) k v := by
  have h1 := putM_length d x k v h.nonempty
  have h2 := h.four
  have h3 := flat_parted (putM d x k v)
  rw [(flat_put d x k v h.fit h.nonempty h.ks).1] at h3
  refine ⟨⟨fit_parted (fit_put d x k v h.fit h.nonempty) (by omega) (by omega), ?_, .inr ?_, by rw [h3]; exact KS_ins h.ks k v⟩, h3⟩
  · have := (parted_length (putM d x k v)).2; omega
  · unfold parted
    rw [if_neg h4]
    exact Nat.le_refl 2
theorem good_cut {d : Nat} {x : Nd d} (h : Good d x) (k : Key) (h1 : d = 0 ∨ 2 ≤ (cutM d x k).length) : Good d (cutM d x k) := by
  have h2 := cutM_length d x k h.nonempty
  exact ⟨fit_cut d x k h.fit h.two, by have := h.four; omega, h1, by rw [(flat_cut d x k h.fit h.nonempty h.ks).1]; exact KS_del h.ks k⟩
/-- A root with one child is left for it. -/
theorem good_down {d : Nat} {x : Nd (d + 1)} (hf : Fit (d + 1) x) (h1 : x.length = 1) (hs : KS (keys (flat (d + 1) x))) : Good d (sub x 0) ∧ flat d (sub x 0) = flat (d + 1) x := by
  have h2 := hf.sub (i := 0) (by omega)
  have e : flat d (sub x 0) = flat (d + 1) x := by
    rw [flat_split x 0 (by omega), List.take_zero, List.drop_eq_nil_of_le (by omega), flat_nil, List.nil_append, List.append_nil]
  exact ⟨⟨h2.2.2.1, h2.2.1, .inr h2.1, by rw [e]; exact hs⟩, e⟩
end Go.Proofs.Ytjmkfppnimengaa
