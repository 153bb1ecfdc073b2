/- Rows in the order of their keys: what is put, cut, got, as members; the two trees of an index. No program. No conditions. The rows of an index, and its two trees: what each call does to both. No program. No conditions. An index in memory: two trees, by the first key and by both. No conditions. Small calls of an index: which rows may be, what stands by a key, a new index. Conditions: an index in memory. Calls of an index that turn it: Move, Find. Conditions: an index in memory, of at most a thousand rows. Mend and Cut of an index. Conditions: an index in memory, of at most a thousand rows. -/
import Derived.Test.YtedfijmaeoednaaGreatDoorBx23
namespace Go.Proofs.YtedfijmaeoednaaGreatDoor
open Go.RowKit Go.Wh Go.Proofs.YtedfijmaeoednaaGreatDoor.Tw

section
variable {α : Type} (kf : α → Key)
def insG (l : List α) (x : α) : List α := l.take (pos (l.map kf) (kf x)) ++ x :: l.drop (if hasK (l.map kf) (kf x) then pos (l.map kf) (kf x) + 1 else pos (l.map kf) (kf x))
def delG (l : List α) (k : Key) : List α := if hasK (l.map kf) k then l.take (pos (l.map kf) k) ++ l.drop (pos (l.map kf) k + 1) else l
def getG (l : List α) (k : Key) : Option α := if hasK (l.map kf) k then l[pos (l.map kf) k]? else none

variable {kf}
theorem KS.nodup_of {l : List α} (hs : KS (l.map kf)) {x y : α} (hx : x ∈ l) (hy : y ∈ l) (h : kf x = kf y) : x = y := by
  induction l with
  | nil => cases hx
  | cons a l ih =>
    have h1 := List.pairwise_cons.1 hs
    rcases List.mem_cons.1 hx with rfl | hx'
    · rcases List.mem_cons.1 hy with rfl | hy'
      · rfl
      · have := h1.1 (kf y) (List.mem_map_of_mem hy')
        rw [h, bl_irrefl] at this
        cases this
    · rcases List.mem_cons.1 hy with rfl | hy'
      · have := h1.1 (kf x) (List.mem_map_of_mem hx')
        rw [h, bl_irrefl] at this
        cases this
      · exact ih h1.2 hx' hy'

theorem mem_take_low {l : List α} {k : Key} {y : α} (h : y ∈ l.take (pos (l.map kf) k)) : bl (kf y) k = true :=
  take_low (l.map kf) k (kf y) (by rw [← List.map_take]; exact List.mem_map_of_mem h)
theorem mem_drop_high {l : List α} (hs : KS (l.map kf)) {k : Key} {y : α} (h : y ∈ l.drop (if hasK (l.map kf) k then pos (l.map kf) k + 1 else pos (l.map kf) k)) : bl k (kf y) = true :=
  drop_high hs k (kf y) (by rw [← List.map_drop]; exact List.mem_map_of_mem h)
theorem ne_of_bl {a b : Key} (h : bl a b = true) : a ≠ b := fun e => by rw [e, bl_irrefl] at h; cases h

/-- A row of keys, parted at a key. -/
theorem parts {l : List α} (k : Key) : ∃ C, l = l.take (pos (l.map kf) k) ++ (C ++ l.drop (if hasK (l.map kf) k then pos (l.map kf) k + 1 else pos (l.map kf) k)) ∧ (∀ c ∈ C, kf c = k) ∧ (hasK (l.map kf) k = true → C ≠ []) := by
  cases h : hasK (l.map kf) k with
  | false => exact ⟨[], by simp, by simp, by simp⟩
  | true =>
    have hp := hasK_lt h
    rw [List.length_map] at hp
    have hg : (l.map kf)[pos (l.map kf) k]? = some k := by simpa [hasK] using h
    rw [List.getElem?_map, List.getElem?_eq_getElem hp] at hg
    simp only [Option.map_some, Option.some.injEq] at hg
    refine ⟨[l[pos (l.map kf) k]], ?_, by simpa using hg, by simp⟩
    simp only [if_true, List.singleton_append]
    rw [← List.drop_eq_getElem_cons hp, List.take_append_drop]

theorem mem_insG {l : List α} (hs : KS (l.map kf)) (x y : α) : y ∈ insG kf l x ↔ y = x ∨ (kf y ≠ kf x ∧ y ∈ l) := by
  obtain ⟨C, hl, hc, _⟩ := parts (kf := kf) (l := l) (kf x)
  have hm : y ∈ l ↔ y ∈ l.take (pos (l.map kf) (kf x)) ∨ y ∈ C ∨ y ∈ l.drop (if hasK (l.map kf) (kf x) then pos (l.map kf) (kf x) + 1 else pos (l.map kf) (kf x)) := by
    conv => lhs; rw [hl]
    simp only [List.mem_append]
  unfold insG
  rw [List.mem_append, List.mem_cons]
  constructor
  · rintro (h | h | h)
    · exact .inr ⟨ne_of_bl (mem_take_low h), hm.2 (.inl h)⟩
    · exact .inl h
    · exact .inr ⟨(ne_of_bl (mem_drop_high hs h)).symm, hm.2 (.inr (.inr h))⟩
  · rintro (h | ⟨h1, h2⟩)
    · exact .inr (.inl h)
    · rcases hm.1 h2 with h | h | h
      · exact .inl h
      · exact absurd (hc y h) h1
      · exact .inr (.inr h)

theorem mem_delG {l : List α} (hs : KS (l.map kf)) (k : Key) (y : α) : y ∈ delG kf l k ↔ kf y ≠ k ∧ y ∈ l := by
  obtain ⟨C, hl, hc, hne⟩ := parts (kf := kf) (l := l) k
  have hm : y ∈ l ↔ y ∈ l.take (pos (l.map kf) k) ∨ y ∈ C ∨ y ∈ l.drop (if hasK (l.map kf) k then pos (l.map kf) k + 1 else pos (l.map kf) k) := by
    conv => lhs; rw [hl]
    simp only [List.mem_append]
  unfold delG
  cases h : hasK (l.map kf) k with
  | true =>
    have hdh := fun hy => mem_drop_high (k := k) (y := y) hs hy
    rw [h] at hm hdh
    simp only [if_true] at hm hdh ⊢
    rw [List.mem_append, hm]
    constructor
    · rintro (h | h)
      · exact ⟨ne_of_bl (mem_take_low h), .inl h⟩
      · exact ⟨(ne_of_bl (hdh h)).symm, .inr (.inr h)⟩
    · rintro ⟨h1, h | h | h⟩
      · exact .inl h
      · exact absurd (hc y h) h1
      · exact .inr h
  | false =>
    simp only [Bool.false_eq_true, if_false]
    refine ⟨fun hy => ⟨fun e => ?_, hy⟩, fun hy => hy.2⟩
    have hdh := fun hy => mem_drop_high (k := k) (y := y) hs hy
    rw [h] at hm hdh
    simp only [Bool.false_eq_true, if_false] at hm hdh
    rcases hm.1 hy with h' | h' | h'
    · exact absurd e (ne_of_bl (mem_take_low h'))
    · rw [h] at hl
      simp only [Bool.false_eq_true, if_false] at hl
      have h2 := congrArg List.length hl
      rw [List.length_append, List.length_append, List.length_take, List.length_drop] at h2
      have h3 := pos_le (l.map kf) k
      rw [List.length_map] at h3
      have h4 : C.length = 0 := by omega
      rw [List.eq_nil_of_length_eq_zero h4] at h'
      cases h'
    · exact absurd e (ne_of_bl (hdh h')).symm

theorem KS_insG {l : List α} (hs : KS (l.map kf)) (x : α) : KS ((insG kf l x).map kf) := by
  unfold insG
  rw [List.map_append, List.map_cons]
  refine List.pairwise_append.2 ⟨?_, List.pairwise_cons.2 ⟨?_, ?_⟩, ?_⟩
  · rw [List.map_take]; exact hs.sublist (List.take_sublist _ _)
  · intro a ha
    obtain ⟨y, hy, rfl⟩ := List.mem_map.1 ha
    exact mem_drop_high hs hy
  · rw [List.map_drop]; exact hs.sublist (List.drop_sublist _ _)
  · intro a ha b hb
    obtain ⟨y, hy, rfl⟩ := List.mem_map.1 ha
    rcases List.mem_cons.1 hb with rfl | hb
    · exact mem_take_low hy
    · obtain ⟨z, hz, rfl⟩ := List.mem_map.1 hb
      exact bl_trans (mem_take_low hy) (mem_drop_high hs hz)

theorem KS_delG {l : List α} (hs : KS (l.map kf)) (k : Key) : KS ((delG kf l k).map kf) := by
  unfold delG
  split
  · rw [List.map_append]
    have h1 : ((l.take (pos (l.map kf) k)).map kf ++ (l.drop (pos (l.map kf) k + 1)).map kf).Sublist (l.map kf) := by
      rw [← List.map_append]
      refine List.Sublist.map _ ?_
      conv => rhs; rw [← List.take_append_drop (pos (l.map kf) k) l]
      refine List.Sublist.append (List.Sublist.refl _) ?_
      rw [← List.drop_drop]
      exact List.drop_sublist _ _
    exact hs.sublist h1
  · exact hs

theorem getG_some {l : List α} (hs : KS (l.map kf)) {k : Key} {y : α} : getG kf l k = some y ↔ kf y = k ∧ y ∈ l := by
  unfold getG
  cases h : hasK (l.map kf) k with
  | true =>
    simp only [if_true]
    have hp := hasK_lt h
    rw [List.length_map] at hp
    have hg : (l.map kf)[pos (l.map kf) k]? = some k := by simpa [hasK] using h
    rw [List.getElem?_map, List.getElem?_eq_getElem hp] at hg
    simp only [Option.map_some, Option.some.injEq] at hg
    rw [List.getElem?_eq_getElem hp]
    constructor
    · intro e
      simp only [Option.some.injEq] at e
      exact ⟨e ▸ hg, e ▸ List.getElem_mem hp⟩
    · rintro ⟨h1, h2⟩
      rw [KS.nodup_of hs (List.getElem_mem hp) h2 (hg.trans h1.symm)]
  | false =>
    simp only [Bool.false_eq_true, if_false]
    refine ⟨(fun e => by cases e), fun ⟨h1, h2⟩ => ?_⟩
    have := (mem_delG hs k y).1 (by unfold delG; rw [h]; exact h2)
    exact absurd h1 this.1

theorem getG_none {l : List α} (hs : KS (l.map kf)) {k : Key} : getG kf l k = none ↔ ∀ y ∈ l, kf y ≠ k := by
  constructor
  · intro h y hy e
    have := (getG_some hs).2 ⟨e, hy⟩
    rw [h] at this
    cases this
  · intro h
    cases hg : getG kf l k with
    | none => rfl
    | some y =>
      have := (getG_some hs).1 hg
      exact absurd this.1 (h y this.2)
theorem getG_has {l : List α} (k : Key) : (getG kf l k).isSome = hasK (l.map kf) k := by
  unfold getG
  cases h : hasK (l.map kf) k with
  | true =>
    have hp := hasK_lt h
    rw [List.length_map] at hp
    simp only [if_true]
    rw [List.getElem?_eq_getElem hp]
    rfl
  | false => rfl

/-- Two rising rows of the same members are one. -/
theorem KS.ext {l m : List α} (hl : KS (l.map kf)) (hm : KS (m.map kf)) (h : ∀ y, y ∈ l ↔ y ∈ m) : l = m := by
  induction l generalizing m with
  | nil =>
    cases m with
    | nil => rfl
    | cons b m => exact absurd ((h b).2 (by simp)) (by simp)
  | cons a l ih =>
    cases m with
    | nil => exact absurd ((h a).1 (by simp)) (by simp)
    | cons b m =>
      have h1 := List.pairwise_cons.1 hl
      have h2 := List.pairwise_cons.1 hm
      have hab : a = b := by
        rcases List.mem_cons.1 ((h a).1 (by simp)) with e | e
        · exact e
        · rcases List.mem_cons.1 ((h b).2 (by simp)) with e' | e'
          · exact e'.symm
          · have q1 := h2.1 (kf a) (List.mem_map_of_mem e)
            have q2 := h1.1 (kf b) (List.mem_map_of_mem e')
            rw [bl_asymm q1] at q2
            cases q2
      subst hab
      congr 1
      refine ih h1.2 h2.2 fun y => ⟨fun hy => ?_, fun hy => ?_⟩
      · rcases List.mem_cons.1 ((h y).1 (List.mem_cons_of_mem _ hy)) with rfl | e
        · have := h1.1 (kf y) (List.mem_map_of_mem hy)
          rw [bl_irrefl] at this
          cases this
        · exact e
      · rcases List.mem_cons.1 ((h y).2 (List.mem_cons_of_mem _ hy)) with rfl | e
        · have := h2.1 (kf y) (List.mem_map_of_mem hy)
          rw [bl_irrefl] at this
          cases this
        · exact e

theorem insG_length {l : List α} (x : α) : (insG kf l x).length = l.length + (if hasK (l.map kf) (kf x) then 0 else 1) := by
  have hp := pos_le (l.map kf) (kf x)
  rw [List.length_map] at hp
  unfold insG
  cases h : hasK (l.map kf) (kf x) with
  | true =>
    have := hasK_lt h
    rw [List.length_map] at this
    simp
    omega
  | false =>
    simp
    omega
theorem delG_length {l : List α} (k : Key) : (delG kf l k).length + (if hasK (l.map kf) k then 1 else 0) = l.length := by
  unfold delG
  cases h : hasK (l.map kf) k with
  | true =>
    have := hasK_lt h
    rw [List.length_map] at this
    simp
    omega
  | false => simp
end
end Go.Proofs.YtedfijmaeoednaaGreatDoor

namespace Go.Proofs.YtedfijmaeoednaaGreatDoor
open Go.RowKit Go.Wh Go.Proofs.YtedfijmaeoednaaGreatDoor.Tw
open Go.Lib hiding intOf

/-- A row of the index: its keys, where it is, where the second tree tells it. -/
structure Rw where
  key : Key
  sec : Key
  f : Rid
  n : Rid

abbrev insR (R : List Rw) (r : Rw) : List Rw := insG Rw.key R r
abbrev delR (R : List Rw) (k : Key) : List Rw := delG Rw.key R k
abbrev getR (R : List Rw) (k : Key) : Option Rw := getG Rw.key R k

/-- What the first tree has. -/
def keptOf (r : Rw) : Ke.Rid := (r.f.1, r.f.2, r.sec)
def one (R : List Rw) : Ke.Nd 0 := R.map fun r => (r.key, keptOf r)
def rkeys (R : List Rw) : List Key := R.map Rw.key
theorem one_keys (R : List Rw) : Ke.keys (one R) = rkeys R := by
  unfold Ke.keys one rkeys
  rw [List.map_map]
  rfl
theorem one_length (R : List Rw) : (one R).length = R.length := List.length_map _
theorem one_ins (R : List Rw) (r : Rw) : one (insR R r) = Ke.insL (one R) r.key (keptOf r) := by
  unfold Ke.insL
  rw [one_keys]
  unfold one insR insG
  rw [List.map_append, List.map_cons, List.map_take, List.map_drop]
  rfl
theorem one_del (R : List Rw) (k : Key) : one (delR R k) = Ke.delL (one R) k := by
  unfold Ke.delL
  rw [one_keys]
  unfold delR delG
  show one (if hasK (rkeys R) k then _ else _) = _
  split
  · unfold one
    rw [List.map_append, List.map_take, List.map_drop]
    rfl
  · rfl
theorem one_vals : ∀ (R : List Rw), Ke.vals (one R) = R.map keptOf
  | [] => rfl
  | a :: R => by
    show keptOf a :: Ke.vals (one R) = _
    rw [one_vals R]
    rfl
theorem keys_get {l : Nd 0} {i : Nat} {x : Key × E 0} (h : l[i]? = some x) : (keys l)[i]? = some x.1 := by
  unfold keys
  rw [List.getElem?_map, h]
  rfl
theorem one_get (R : List Rw) (k : Key) : Ke.getL (one R) k = (getR R k).map keptOf := by
  unfold Ke.getL
  rw [one_keys]
  unfold getR getG
  show _ = Option.map keptOf (if hasK (rkeys R) k then R[pos (rkeys R) k]? else none)
  rw [one_vals]
  split
  · rw [List.getElem?_map]
  · rfl

/-- The two keys as one. -/
def jk (r : Rw) : Key := jB r.sec r.key
theorem jB_list (s k : ByteArray) : (jB s k).toList = joinL s.toList k.toList := by
  rw [ByteArray.toList_eq, ByteArray.toList_eq, ByteArray.toList_eq]
  rfl
theorem jB_inj {a b c d : ByteArray} (h : jB a b = jB c d) : a = c ∧ b = d := by
  have h1 := congrArg ByteArray.toList h
  rw [jB_list, jB_list] at h1
  have h2 := join_inj h1
  exact ⟨key_ext h2.1, key_ext h2.2⟩
theorem bl_jB (a b c d : ByteArray) : bl (jB a b) (jB c d) = true ↔ bl a c = true ∨ (a = c ∧ bl b d = true) := by
  rw [bl_iff, bl_iff, bl_iff, jB_list, jB_list, join_lt]
  constructor
  · rintro (h | ⟨h1, h2⟩)
    · exact .inl h
    · exact .inr ⟨key_ext h1, h2⟩
  · rintro (h | ⟨h1, h2⟩)
    · exact .inl h
    · exact .inr ⟨by rw [h1], h2⟩

abbrev kf0 : Key × E 0 → Key := fun x => x.1
theorem insL_G (l : Nd 0) (k : Key) (v : Rid) : insL l k v = insG kf0 l (k, v) := rfl
theorem delL_G (l : Nd 0) (k : Key) : delL l k = delG kf0 l k := rfl

/-- The second tree has each row by both keys, and nothing else. -/
structure Two (R : List Rw) (l : Nd 0) : Prop where
  ks : KS (keys l)
  mem : ∀ (k : Key) (v : Rid), (k, v) ∈ (show List (Key × E 0) from l) ↔ ∃ r ∈ R, k = jk r ∧ v = r.n
  len : l.length = R.length

theorem hasG {α : Type} {kf : α → Key} {l : List α} (hs : KS (l.map kf)) (k : Key) : hasK (l.map kf) k = true ↔ ∃ y ∈ l, kf y = k := by
  rw [← getG_has, Option.isSome_iff_exists]
  constructor
  · rintro ⟨y, hy⟩
    have := (getG_some hs).1 hy
    exact ⟨y, this.2, this.1⟩
  · rintro ⟨y, h1, h2⟩
    exact ⟨y, (getG_some hs).2 ⟨h2, h1⟩⟩

theorem Two.nil : Two [] [] := ⟨List.Pairwise.nil, fun k v => ⟨(fun h => by cases h), (fun ⟨r, hr, _⟩ => by cases hr)⟩, rfl⟩

theorem Two.put {R : List Rw} {l : Nd 0} (h : Two R l) (hs : KS (rkeys R)) (r : Rw) (hj : ∀ r' ∈ R, r'.key = r.key → jk r' = jk r) : Two (insR R r) (insL l (jk r) r.n) := by
  refine ⟨by rw [insL_G]; exact KS_insG h.ks _, fun k v => ?_, ?_⟩
  · rw [insL_G]
    refine (mem_insG (kf := kf0) h.ks (jk r, r.n) (k, v)).trans ?_
    constructor
    · rintro (e | ⟨h1, h2⟩)
      · cases e
        exact ⟨r, (mem_insG hs _ _).2 (.inl rfl), rfl, rfl⟩
      · obtain ⟨r', hr, rfl, rfl⟩ := (h.mem k v).1 h2
        exact ⟨r', (mem_insG hs _ _).2 (.inr ⟨fun e => h1 (hj r' hr e), hr⟩), rfl, rfl⟩
    · rintro ⟨r', hr, rfl, rfl⟩
      rcases (mem_insG hs _ _).1 hr with rfl | ⟨h1, h2⟩
      · exact .inl rfl
      · exact .inr ⟨fun e => h1 (jB_inj e).2, (h.mem _ _).2 ⟨r', h2, rfl, rfl⟩⟩
  · rw [insL_G]
    have e : hasK ((show List (Key × E 0) from l).map kf0) (jk r) = hasK (R.map Rw.key) r.key := by
      rw [Bool.eq_iff_iff, hasG (l := l) (kf := kf0) h.ks, hasG hs]
      constructor
      · rintro ⟨⟨k, v⟩, h1, h2⟩
        obtain ⟨r', hr, e1, _⟩ := (h.mem k v).1 h1
        have h3 : k = jk r := h2
        rw [h3] at e1
        exact ⟨r', hr, (jB_inj e1).2.symm⟩
      · rintro ⟨r', hr, h2⟩
        exact ⟨(jk r', r'.n), (h.mem _ _).2 ⟨r', hr, rfl, rfl⟩, hj r' hr h2⟩
    have h1 := insG_length (kf := kf0) (l := l) (jk r, r.n)
    have h2 := insG_length (kf := Rw.key) (l := R) r
    rw [e] at h1
    have h3 := h.len
    exact h1.trans (by rw [h3]; exact h2.symm)

theorem Two.move {R : List Rw} {l : Nd 0} (h : Two R l) (hs : KS (rkeys R)) {r0 r : Rw} (h0 : r0 ∈ R) (hk : r0.key = r.key) (hj : jk r0 = jk r) (hn : r0.n = r.n) : Two (insR R r) l := by
  refine ⟨h.ks, fun k v => ?_, ?_⟩
  · rw [h.mem]
    constructor
    · rintro ⟨r', hr, rfl, rfl⟩
      by_cases e : r'.key = r.key
      · have : r' = r0 := KS.nodup_of hs hr h0 (e.trans hk.symm)
        subst this
        exact ⟨r, (mem_insG hs _ _).2 (.inl rfl), hj, hn⟩
      · exact ⟨r', (mem_insG hs _ _).2 (.inr ⟨e, hr⟩), rfl, rfl⟩
    · rintro ⟨r', hr, rfl, rfl⟩
      rcases (mem_insG hs _ _).1 hr with rfl | ⟨h1, h2⟩
      · exact ⟨r0, h0, hj.symm, hn.symm⟩
      · exact ⟨r', h2, rfl, rfl⟩
  · have h2 := insG_length (kf := Rw.key) (l := R) r
    rw [(hasG hs r.key).2 ⟨r0, h0, hk⟩] at h2
    rw [h.len, h2]
    simp

theorem Two.del {R : List Rw} {l : Nd 0} (h : Two R l) (hs : KS (rkeys R)) {r0 : Rw} (h0 : r0 ∈ R) : Two (delR R r0.key) (delL l (jk r0)) := by
  refine ⟨by rw [delL_G]; exact KS_delG h.ks _, fun k v => ?_, ?_⟩
  · rw [delL_G]
    refine (mem_delG (kf := kf0) h.ks (jk r0) (k, v)).trans ?_
    constructor
    · rintro ⟨h1, h2⟩
      obtain ⟨r', hr, rfl, rfl⟩ := (h.mem k v).1 h2
      refine ⟨r', (mem_delG hs _ _).2 ⟨fun e => h1 ?_, hr⟩, rfl, rfl⟩
      rw [KS.nodup_of hs hr h0 e]
    · rintro ⟨r', hr, rfl, rfl⟩
      obtain ⟨h1, h2⟩ := (mem_delG hs _ _).1 hr
      exact ⟨fun e => h1 (jB_inj e).2, (h.mem _ _).2 ⟨r', h2, rfl, rfl⟩⟩
  · have e1 : hasK ((show List (Key × E 0) from l).map kf0) (jk r0) = true := (hasG (l := l) (kf := kf0) h.ks _).2 ⟨(jk r0, r0.n), (h.mem _ _).2 ⟨r0, h0, rfl, rfl⟩, rfl⟩
    have e2 : hasK (R.map Rw.key) r0.key = true := (hasG hs _).2 ⟨r0, h0, rfl⟩
    have h1 := delG_length (kf := kf0) (l := l) (jk r0)
    have h2 := delG_length (kf := Rw.key) (l := R) r0.key
    rw [e1] at h1
    rw [e2] at h2
    have h3 := h.len
    rw [delL_G]
    have h4 : (delG kf0 l (jk r0)).length + 1 = R.length := by rw [← h3]; exact h1
    have h5 : (delG Rw.key R r0.key).length + 1 = R.length := h2
    show (delG kf0 l (jk r0)).length = (delG Rw.key R r0.key).length
    omega

/-- The rows of a second key. -/
def seekR (R : List Rw) (s : Key) : List Rw := R.filter fun r => decide (r.sec = s)

theorem takeWhile_filter {α : Type} (p : α → Bool) : ∀ {l : List α}, l.Pairwise (fun a b => p b = true → p a = true) → l.takeWhile p = l.filter p
  | [], _ => rfl
  | a :: l, h => by
    have h1 := List.pairwise_cons.1 h
    rw [List.takeWhile_cons, List.filter_cons]
    cases hp : p a with
    | true => simp only [if_true]; rw [takeWhile_filter p h1.2]
    | false =>
      simp only [Bool.false_eq_true, if_false]
      symm
      rw [List.filter_eq_nil_iff]
      intro b hb e
      rw [h1.1 b hb e] at hp
      cases hp

def secOf (k : Key) : Key := (spT k).1
theorem secOf_jk (r : Rw) : secOf (jk r) = r.sec := by unfold secOf jk; rw [spT_join]

def twoOf (r : Rw) : Key × E 0 := (jk r, r.n)

/-- What the second tree has from a second key on, as long as it is that key's. -/
theorem Two.seek {R : List Rw} {l : Nd 0} (h : Two R l) (hs : KS (rkeys R)) (s : Key) :
    (show List (Key × E 0) from l.drop (pos (keys l) (jB s ⟨#[]⟩))).takeWhile (fun x => decide (secOf x.1 = s)) = (seekR R s).map twoOf := by
  have hlow : ∀ r : Rw, bl (jk r) (jB s ⟨#[]⟩) = true ↔ bl r.sec s = true := fun r => by
    unfold jk
    rw [bl_jB]
    constructor
    · rintro (e | ⟨_, e⟩)
      · exact e
      · rw [bl_iff] at e
        have hn : (ByteArray.mk #[]).toList = [] := by rw [ByteArray.toList_eq]
        rw [hn] at e
        exact absurd e (List.not_lt_nil _)
    · exact .inl
  have hD : KS (keys (l.drop (pos (keys l) (jB s ⟨#[]⟩)))) := by rw [← keys_drop]; exact h.ks.sublist (List.drop_sublist _ _)
  have hge : ∀ x ∈ (show List (Key × E 0) from l.drop (pos (keys l) (jB s ⟨#[]⟩))), bl (secOf x.1) s = false := fun x hx => by
    have hx' : x ∈ (show List (Key × E 0) from l) := List.mem_of_mem_drop hx
    obtain ⟨r, hr, e1, e2⟩ := (h.mem x.1 x.2).1 hx'
    rw [e1, secOf_jk]
    cases hb : bl r.sec s with
    | false => rfl
    | true =>
      obtain ⟨i, hi⟩ := List.mem_iff_getElem?.1 hx
      rw [List.getElem?_drop] at hi
      have h2 : (keys l)[pos (keys l) (jB s ⟨#[]⟩) + i]? = some x.1 := keys_get hi
      have h3 := (pos_lt h.ks (jB s ⟨#[]⟩) h2).1 (by rw [e1]; exact (hlow r).2 hb)
      omega
  rw [takeWhile_filter]
  · refine KS.ext (kf := kf0) ?_ ?_ fun x => ?_
    · have : (List.map kf0 ((show List (Key × E 0) from l.drop (pos (keys l) (jB s ⟨#[]⟩))).filter fun x => decide (secOf x.1 = s))).Sublist (keys (l.drop (pos (keys l) (jB s ⟨#[]⟩)))) := List.Sublist.map _ List.filter_sublist
      exact hD.sublist this
    · rw [List.map_map]
      have hr1 : KS ((seekR R s).map Rw.key) := hs.sublist (List.Sublist.map _ List.filter_sublist)
      unfold KS at hr1 ⊢
      rw [List.pairwise_map] at hr1 ⊢
      refine hr1.imp_of_mem fun {a b} ha hb hab => ?_
      have ea : a.sec = s := by have := (List.mem_filter.1 ha).2; simpa using this
      have eb : b.sec = s := by have := (List.mem_filter.1 hb).2; simpa using this
      exact (bl_jB _ _ _ _).2 (.inr ⟨ea.trans eb.symm, hab⟩)
    · rw [List.mem_filter, List.mem_map]
      constructor
      · rintro ⟨h1, h2⟩
        obtain ⟨r, hr, e1, e2⟩ := (h.mem x.1 x.2).1 (List.mem_of_mem_drop h1)
        rw [e1, secOf_jk] at h2
        exact ⟨r, List.mem_filter.2 ⟨hr, h2⟩, Prod.ext e1.symm e2.symm⟩
      · rintro ⟨r, hr, rfl⟩
        obtain ⟨h1, h2⟩ := List.mem_filter.1 hr
        refine ⟨?_, by show decide (secOf (jk r) = s) = true; rw [secOf_jk]; exact h2⟩
        have hm := (h.mem (jk r) r.n).2 ⟨r, h1, rfl, rfl⟩
        obtain ⟨i, hi⟩ := List.mem_iff_getElem?.1 hm
        have h3 : (keys l)[i]? = some (jk r) := keys_get hi
        have h4 : ¬ i < pos (keys l) (jB s ⟨#[]⟩) := fun hlt => by
          have h5 := (hlow r).1 ((pos_lt h.ks (jB s ⟨#[]⟩) h3).2 hlt)
          have e : r.sec = s := by simpa using h2
          rw [e, bl_irrefl] at h5
          cases h5
        refine List.mem_iff_getElem?.2 ⟨i - pos (keys l) (jB s ⟨#[]⟩), ?_⟩
        rw [List.getElem?_drop, show pos (keys l) (jB s ⟨#[]⟩) + (i - pos (keys l) (jB s ⟨#[]⟩)) = i by omega]
        exact hi
  · have hD' : (show List (Key × E 0) from l.drop (pos (keys l) (jB s ⟨#[]⟩))).Pairwise fun a b => bl a.1 b.1 = true := by
      have := hD
      unfold KS keys at this
      rw [List.pairwise_map] at this
      exact this
    refine hD'.imp_of_mem fun {a b} ha hb hab e => ?_
    have ga := hge a ha
    obtain ⟨r, hr, e1, _⟩ := (h.mem a.1 a.2).1 (List.mem_of_mem_drop ha)
    obtain ⟨q, hq, e2, _⟩ := (h.mem b.1 b.2).1 (List.mem_of_mem_drop hb)
    rw [e1, e2] at hab
    rw [e2, secOf_jk] at e
    rw [e1, secOf_jk] at ga ⊢
    have e' : q.sec = s := by simpa using e
    rcases (bl_jB _ _ _ _).1 hab with h1 | ⟨h1, _⟩
    · rw [e', ga] at h1
      cases h1
    · rw [h1, e']
      simp
end Go.Proofs.YtedfijmaeoednaaGreatDoor

namespace Go.Proofs.YtedfijmaeoednaaGreatDoor
open Go.RowKit Go.Wh Go.Proofs.YtedfijmaeoednaaGreatDoor.Tw

structure Fits (R : List Rw) : Prop where
  ks : KS (rkeys R)
  small : ∀ r ∈ R, 1 ≤ r.key.size ∧ r.key.size ≤ 8 ∧ r.sec.size ≤ 6

/-- An index at x that has R: its trees a, b, and the blocks that these are made of. -/
structure IxV (w : World) (x : Nat) (R : List Rw) (a b : Nat) (F1 F2 : List Nat) (l : Nd 0) : Prop where
  cells : cellsAt w x [ptr a, ptr b]
  t1 : Ke.TreeAt w a (one R) F1
  t2 : TreeAt w b l F2
  two : Two R l
  nd : (x :: (F1 ++ F2)).Nodup
  pos : ∀ c ∈ x :: (F1 ++ F2), 0 < c
  fits : Fits R
  m : HasM w
def IxAt (w : World) (x : Nat) (R : List Rw) (F : List Nat) : Prop := ∃ a b F1 F2, ∃ l : Nd 0, IxV w x R a b F1 F2 l ∧ F = x :: (F1 ++ F2)

theorem HasM.only {w w' : World} {S : Nat → Prop} (h : HasM w) (ho : Only S w w') (hs : ¬ S 0) : HasM w' := by
  obtain ⟨m, hm⟩ := h
  exact ⟨m, (ho.cell (p := ⟨0, 0, none⟩) (World.block_lt_of_cell? _ _ hm) hs).trans hm⟩

section
variable {w w' : World} {x : Nat} {R : List Rw} {a b : Nat} {F1 F2 F : List Nat} {l : Nd 0} {S : Nat → Prop}
theorem IxV.only (h : IxV w x R a b F1 F2 l) (ho : Only S w w') (hs : ∀ c ∈ x :: (F1 ++ F2), ¬ S c) (h0 : ¬ S 0) : IxV w' x R a b F1 F2 l :=
  ⟨h.cells.only ho (hs x (by simp)), h.t1.only ho fun c hc => hs c (by simp [hc]), h.t2.only ho fun c hc => hs c (by simp [hc]), h.two, h.nd, h.pos, h.fits, HasM.only h.m ho h0⟩
theorem IxAt.only (h : IxAt w x R F) (ho : Only S w w') (hs : ∀ c ∈ F, ¬ S c) (h0 : ¬ S 0) : IxAt w' x R F := by
  obtain ⟨a, b, F1, F2, l, h, rfl⟩ := h
  exact ⟨a, b, F1, F2, l, h.only ho hs h0, rfl⟩
theorem IxV.still (h : IxV w x R a b F1 F2 l) (ho : Still w w') : IxV w' x R a b F1 F2 l := h.only ho (fun _ _ e => e) (fun e => e)
theorem IxAt.still (h : IxAt w x R F) (ho : Still w w') : IxAt w' x R F := h.only ho (fun _ _ e => e) (fun e => e)
theorem IxV.lt (h : IxV w x R a b F1 F2 l) : ∀ c ∈ x :: (F1 ++ F2), c < w.heap.size := by
  intro c hc
  rcases List.mem_cons.1 hc with rfl | hc
  · exact h.cells.lt
  · rcases List.mem_append.1 hc with hc | hc
    · exact h.t1.lt c hc
    · exact h.t2.lt c hc
theorem IxAt.lt (h : IxAt w x R F) : ∀ c ∈ F, c < w.heap.size := by
  obtain ⟨a, b, F1, F2, l, h, rfl⟩ := h
  exact h.lt
theorem IxAt.fits (h : IxAt w x R F) : Fits R := by
  obtain ⟨a, b, F1, F2, l, h, rfl⟩ := h
  exact h.fits
theorem IxAt.m (h : IxAt w x R F) : HasM w := by
  obtain ⟨a, b, F1, F2, l, h, rfl⟩ := h
  exact h.m
theorem IxAt.pos (h : IxAt w x R F) : ∀ c ∈ F, 0 < c := by
  obtain ⟨a, b, F1, F2, l, h, rfl⟩ := h
  exact h.pos
theorem hasM_pos (h : HasM w) : 0 < w.heap.size := by
  obtain ⟨m, hm⟩ := h
  exact World.block_lt_of_cell? _ _ hm
theorem TreeAt.nodup {t : Nat} (h : TreeAt w t l F) : F.Nodup := by
  obtain ⟨d, r, x, G, h1, h2, rfl, h4, h5, h6⟩ := h
  exact List.nodup_cons.2 ⟨h4, h2.nodup⟩
theorem Ke.TreeAt.nodup {t : Nat} {l : Ke.Nd 0} (h : Ke.TreeAt w t l F) : F.Nodup := by
  obtain ⟨d, r, x, G, h1, h2, rfl, h4, h5, h6⟩ := h
  exact List.nodup_cons.2 ⟨h4, h2.nodup⟩

/-- The first tree has turned, and what is told of both. -/
theorem IxV.turn1 {R' : List Rw} {F1' : List Nat} (h : IxV w x R a b F1 F2 l) (h1 : Ke.TreeAt w' a (one R') F1') (ho : Only (fun c => c ∈ F1) w w') (hn : ∀ c ∈ F1', c ∈ F1 ∨ w.heap.size ≤ c) (h2 : Two R' l) (hf : Fits R') :
    IxV w' x R' a b F1' F2 l := by
  have hnd := List.nodup_cons.1 h.nd
  have hap := List.nodup_append.1 hnd.2
  have hlt := h.lt
  refine ⟨h.cells.only ho fun e => hnd.1 (by simp [e]), h1, h.t2.only ho fun c hc e => hap.2.2 c e c hc rfl, h2, ?_, ?_, hf, HasM.only h.m ho fun e => by have := h.pos 0 (by simp [e]); omega⟩
  · refine List.nodup_cons.2 ⟨fun e => ?_, List.nodup_append.2 ⟨h1.nodup, hap.2.1, fun c hc d hd e => ?_⟩⟩
    · rcases List.mem_append.1 e with e | e
      · rcases hn x e with e | e
        · exact hnd.1 (by simp [e])
        · have := hlt x (by simp); omega
      · exact hnd.1 (by simp [e])
    · subst e
      rcases hn c hc with e | e
      · exact hap.2.2 c e c hd rfl
      · have := hlt c (by simp [hd]); omega
  · intro c hc
    have h0 := hasM_pos h.m
    simp only [List.mem_cons, List.mem_append] at hc
    rcases hc with rfl | hc | hc
    · exact h.pos _ (by simp)
    · rcases hn c hc with e | e
      · exact h.pos c (by simp [e])
      · omega
    · exact h.pos c (by simp [hc])
/-- The second tree has turned. -/
theorem IxV.turn2 {R' : List Rw} {l' : Nd 0} {F2' : List Nat} (h : IxV w x R a b F1 F2 l) (h1 : TreeAt w' b l' F2') (ho : Only (fun c => c ∈ F2) w w') (hn : ∀ c ∈ F2', c ∈ F2 ∨ w.heap.size ≤ c) (h2 : Two R' l') (hf : Fits R') (hR : one R' = one R) :
    IxV w' x R' a b F1 F2' l' := by
  have hnd := List.nodup_cons.1 h.nd
  have hap := List.nodup_append.1 hnd.2
  have hlt := h.lt
  refine ⟨h.cells.only ho fun e => hnd.1 (by simp [e]), hR ▸ h.t1.only ho fun c hc e => hap.2.2 c hc c e rfl, h1, h2, ?_, ?_, hf, HasM.only h.m ho fun e => by have := h.pos 0 (by simp [e]); omega⟩
  · refine List.nodup_cons.2 ⟨fun e => ?_, List.nodup_append.2 ⟨hap.1, h1.nodup, fun c hc d hd e => ?_⟩⟩
    · rcases List.mem_append.1 e with e | e
      · exact hnd.1 (by simp [e])
      · rcases hn x e with e | e
        · exact hnd.1 (by simp [e])
        · have := hlt x (by simp); omega
    · subst e
      rcases hn c hd with e | e
      · exact hap.2.2 c hc c e rfl
      · have := hlt c (by simp [hc]); omega
  · intro c hc
    have h0 := hasM_pos h.m
    simp only [List.mem_cons, List.mem_append] at hc
    rcases hc with rfl | hc | hc
    · exact h.pos _ (by simp)
    · exact h.pos c (by simp [hc])
    · rcases hn c hc with e | e
      · exact h.pos c (by simp [e])
      · omega
end

/-- What a call leaves: an index that has R', told v. -/
def IxPost (w : World) (x : Nat) (F : List Nat) (R' : List Rw) (v : Value) (e : Ending) (w' : World) : Prop :=
  ∃ F', e = .returned v ∧ IxAt w' x R' F' ∧ Only (fun b => b ∈ F) w w' ∧ (∀ b ∈ F', b ∈ F ∨ w.heap.size ≤ b)

theorem IxPost.same {w w' : World} {x : Nat} {F : List Nat} {R : List Rw} {v : Value} (h : IxAt w x R F) (hs : Still w w') : IxPost w x F R v (.returned v) w' :=
  ⟨F, rfl, h.still hs, hs.only, fun _ hb => .inl hb⟩

/-- A row as it is handed in. -/
def rowV (key sec val : Key) : Value := .agg #[.string key, .string sec, .string val]
def mayB (key sec val : Key) : Bool := decide (0 < key.size) && decide (key.size ≤ 8) && decide (sec.size ≤ 6) && decide (val.size ≤ 8)
end Go.Proofs.YtedfijmaeoednaaGreatDoor

namespace Go.Proofs.YtedfijmaeoednaaGreatDoor
open Go.RowKit Go.Wh Go.Proofs.YtedfijmaeoednaaGreatDoor.Tw

theorem size_zero {k : Key} (h : ¬ 0 < k.size) : k = ⟨#[]⟩ := by
  have : k.data.size = 0 := by have : k.size = k.data.size := rfl; omega
  cases k
  simp only at this
  rw [Array.eq_empty_of_size_eq_zero this]
theorem toList_ne {k : Key} (h : 0 < k.size) : k.toList ≠ [] := by
  rw [ByteArray.toList_eq]
  intro e
  have := congrArg List.length e
  have h2 : k.data.toList.length = k.size := Array.length_toList
  rw [h2] at this
  simp only [List.length_nil] at this
  omega

theorem still_of {w w' : World} {S : Nat → Prop} (h : Only S w w') (hs : ∀ c, c < w.heap.size → ¬ S c) : Still w w' :=
  ⟨h.os, h.tape, h.output, h.size, fun i hi _ => h.block i hi (hs i hi)⟩

theorem still_drew (w : World) : Still w w.drew := Only.drew (Only.refl _ _)
theorem still_below {w w' : World} (h : Below w.heap.size w w') : Still w w' := Only.ofBelow h

def MayPost (w : World) (b : Bool) (e : Ending) (w' : World) : Prop := e = .returned (.bool b) ∧ Still w w'
set_option maxHeartbeats 1000000 in
theorem may_any (key sec val : Key) (w : World) (h1 : key.size ≤ 1000) (h2 : sec.size ≤ 1000) (h3 : val.size ≤ 1000) :
    Calls Tryz.prog 33 #[rowV key sec val] w (MayPost w (mayB key sec val)) := by
  have FIN := Lib.hid (fun ob => show Still w (w.alloc ob) from (Still.refl w).alloc ob)
  unfold rowV
  by_cases a1 : 0 < key.size
  rotate_left
  · have e := size_zero a1
    subst e
    have HB := Lib.hid (show mayB ⟨#[]⟩ sec val = false from rfl)
    rw [HB.out]
    go_enter Tryz.func33, Tryz.ntmps33
    go_wp2_with fail
    go_ret
    exact ⟨rfl, FIN.out _⟩
  have n0 := toList_ne a1
  have n1 : (!key.toList.isEmpty) = true := by simpa using n0
  by_cases a2 : key.size ≤ 8
  rotate_left
  · have HB := Lib.hid (show mayB key sec val = false by simp [mayB, a2])
    rw [HB.out]
    have b1 : decide ((key.size : Int) ≤ 8) = false := by simp; omega
    clear a1 a2
    go_enter Tryz.func33, Tryz.ntmps33
    go_wp2_with fail
    go_ret
    exact ⟨rfl, FIN.out _⟩
  have b1 : decide ((key.size : Int) ≤ 8) = true := by simp; omega
  by_cases a3 : sec.size ≤ 6
  rotate_left
  · have HB := Lib.hid (show mayB key sec val = false by simp [mayB, a3])
    rw [HB.out]
    have b2 : decide ((sec.size : Int) ≤ 6) = false := by simp; omega
    clear a1 a2 a3
    go_enter Tryz.func33, Tryz.ntmps33
    go_wp2_with fail
    go_ret
    exact ⟨rfl, FIN.out _⟩
  have b2 : decide ((sec.size : Int) ≤ 6) = true := by simp; omega
  have HB := Lib.hid (show mayB key sec val = decide ((val.size : Int) ≤ 8) by simp [mayB, a1, a2, a3]; omega)
  rw [HB.out]
  clear a1 a2 a3
  go_enter Tryz.func33, Tryz.ntmps33
  go_wp2_with fail
  all_goals
    go_ret
    exact ⟨rfl, FIN.out _⟩

/-- What 'has' tells of a row. -/
def hasV : Option Rw → Value
  | some r => .tuple #[.agg #[.int .i64 r.f.1, .int .i64 r.f.2, .string r.sec], .int .i64 0]
  | none => .tuple #[.agg #[.int .i64 0, .int .i64 0, .string ⟨#[]⟩], .int .i64 9]
def HasPost (w : World) (o : Option Rw) (e : Ending) (w' : World) : Prop := e = .returned (hasV o) ∧ Still w w'
set_option maxHeartbeats 1000000 in
theorem has_any (w : World) (x : Nat) (R : List Rw) (F : List Nat) (k : Key) (h : IxAt w x R F) :
    Calls Tryz.prog 26 #[ptr x, .string k] w (HasPost w (getR R k)) := by
  obtain ⟨a, b, F1, F2, l, h, rfl⟩ := h
  have c0 : ∀ ob, (w.alloc ob).cell? ⟨x, 0, none⟩ = some (ptr a) := fun ob => (h.cells.alloc ob).cell 0
  have HG := Lib.hid (fun ob => Ke.tget (w.alloc ob) a (one R) F1 k (h.t1.still ((Still.refl w).alloc ob)))
  have ST := Lib.hid (fun ob => show Still w (w.alloc ob) from (Still.refl w).alloc ob)
  have B0 := Lib.hid (fun tt => cellsAt_new w [.int .i64 0, .int .i64 0, .string ⟨#[]⟩] tt)
  have hR := one_get R k
  generalize getR R k = o at hR ⊢
  have HR := Lib.hid hR
  clear h hR
  unfold ptr at HG c0
  unfold ptr
  go_enter Tryz.func26, Tryz.ntmps26
  go_wp2_with fail
  have SW := Lib.hid (ST.out (.cells #[.int .i64 0, .int .i64 0, .string ⟨#[]⟩] 58))
  have B1 := Lib.hid (B0.out 58)
  have G1 := Lib.hid (HG.out (.cells #[.int .i64 0, .int .i64 0, .string ⟨#[]⟩] 58))
  clear B0 ST HG c0
  have hb : w.heap.size ≤ w.heap.size := Nat.le_refl _
  generalize w.alloc _ = W at *
  generalize hbx : w.heap.size = bx at *
  have HB := Lib.hid hbx
  clear hb hbx
  refine G1.out.mono ?_
  rintro e w2 ⟨rfl, hs⟩
  rw [HR.out]
  have hbb : cellsAt w2 bx [.int .i64 0, .int .i64 0, .string ⟨#[]⟩] := cellsAt.still hs B1.out
  have q0 : w2.cell? ⟨bx, 0, none⟩ = some (.int .i64 0) := hbb.cell 0
  have q1 : w2.cell? ⟨bx, 1, none⟩ = some (.int .i64 0) := hbb.cell 1
  have q2 : w2.cell? ⟨bx, 2, none⟩ = some (.string ⟨#[]⟩) := hbb.cell 2
  have f0 : w2.frozen? ⟨bx, 0, none⟩ = false := hbb.free 0
  have f1 : w2.frozen? ⟨bx, 1, none⟩ = false := hbb.free 1
  have f2 : w2.frozen? ⟨bx, 2, none⟩ = false := hbb.free 2
  have FIN := Lib.hid (fun W' (ho : Only (fun c => bx ≤ c) w2 W') => show Still w W' from still_of ((SW.out.trans hs).only.trans ho) fun c hc e => by have := HB.out; omega)
  have hlt := hbb.lt
  have hne : ¬ (w2.heap.size = bx) := by omega
  clear hbb hs
  cases o with
  | none =>
    unfold Ke.ridV
    go_wp2_with fail
    (try simp only [Exit.inBlock, Exit.then])
    refine bodyPost_ret (v := .tuple #[.agg #[.int .i64 0, .int .i64 0, .string ⟨#[]⟩], .int .i64 9]) ?_ rfl ⟨rfl, FIN.out _ (by repeat (first | exact Only.refl _ _ | refine Only.alloc ?_ _ | refine Only.setCell ?_ (Or.inl ?_) _ | exact Nat.le_refl _))⟩
    rw [results_cell_tmp rfl]
    go_simp
  | some r =>
    unfold Ke.ridV keptOf
    obtain ⟨rk, rs, ⟨p, c⟩, rn⟩ := r
    go_wp2_with fail
    (try simp only [Exit.inBlock, Exit.then])
    refine bodyPost_ret (v := .tuple #[.agg #[.int .i64 p, .int .i64 c, .string rs], .int .i64 0]) ?_ rfl ⟨rfl, FIN.out _ (by repeat (first | exact Only.refl _ _ | refine Only.alloc ?_ _ | refine Only.setCell ?_ (Or.inl ?_) _ | exact Nat.le_refl _))⟩
    rw [results_cell_tmp rfl]
    go_simp
end Go.Proofs.YtedfijmaeoednaaGreatDoor

namespace Go.Proofs.YtedfijmaeoednaaGreatDoor
open Go.RowKit Go.Wh Go.Proofs.YtedfijmaeoednaaGreatDoor.Tw

/-- What Find tells. -/
def findV : Option Rw → Value
  | some r => .tuple #[.agg #[.int .i64 r.f.1, .int .i64 r.f.2], .int .i64 0]
  | none => .tuple #[.agg #[.int .i64 0, .int .i64 0], .int .i64 9]
def FindPost (w : World) (o : Option Rw) (e : Ending) (w' : World) : Prop := e = .returned (findV o) ∧ Still w w'
set_option maxHeartbeats 1000000 in
theorem find_any (w : World) (x : Nat) (R : List Rw) (F : List Nat) (k : Key) (h : IxAt w x R F) :
    Calls Tryz.prog 16 #[ptr x, .string k] w (FindPost w (getR R k)) := by
  have HG := Lib.hid (fun ob => has_any (w.alloc ob) x R F k (h.still ((Still.refl w).alloc ob)))
  have ST := Lib.hid (fun ob => show Still w (w.alloc ob) from (Still.refl w).alloc ob)
  have B0 := Lib.hid (fun tt => cellsAt_new w [.int .i64 0, .int .i64 0] tt)
  generalize getR R k = o at *
  clear h
  unfold ptr at HG
  unfold ptr
  go_enter Tryz.func16, Tryz.ntmps16
  go_wp2_with fail
  have SW := Lib.hid (ST.out (.cells #[.int .i64 0, .int .i64 0] 31))
  have B1 := Lib.hid (B0.out 31)
  have G1 := Lib.hid (HG.out (.cells #[.int .i64 0, .int .i64 0] 31))
  clear B0 ST HG
  have hb : w.heap.size ≤ w.heap.size := Nat.le_refl _
  generalize w.alloc _ = W at *
  generalize hbx : w.heap.size = bx at *
  have HB := Lib.hid hbx
  clear hb hbx
  refine G1.out.mono ?_
  rintro e w2 ⟨rfl, hs⟩
  have hbb : cellsAt w2 bx [.int .i64 0, .int .i64 0] := cellsAt.still hs B1.out
  have q0 : w2.cell? ⟨bx, 0, none⟩ = some (.int .i64 0) := hbb.cell 0
  have q1 : w2.cell? ⟨bx, 1, none⟩ = some (.int .i64 0) := hbb.cell 1
  have f0 : w2.frozen? ⟨bx, 0, none⟩ = false := hbb.free 0
  have f1 : w2.frozen? ⟨bx, 1, none⟩ = false := hbb.free 1
  have FIN := Lib.hid (fun W' (ho : Only (fun c => bx ≤ c) w2 W') => show Still w W' from still_of ((SW.out.trans hs).only.trans ho) fun c hc e => by have := HB.out; omega)
  have hlt := hbb.lt
  have hne : ¬ (w2.heap.size = bx) := by omega
  clear hbb hs
  cases o with
  | none =>
    unfold hasV
    go_wp2_with fail
    (try simp only [Exit.inBlock, Exit.then])
    refine bodyPost_ret (v := .tuple #[.agg #[.int .i64 0, .int .i64 0], .int .i64 9]) ?_ rfl ⟨rfl, FIN.out _ (by repeat (first | exact Only.refl _ _ | refine Only.alloc ?_ _ | refine Only.setCell ?_ (Or.inl ?_) _ | exact Nat.le_refl _))⟩
    rw [results_cell_tmp rfl]
    go_simp
  | some r =>
    obtain ⟨rk, rs, ⟨p, c⟩, rn⟩ := r
    unfold hasV
    go_wp2_with fail
    (try simp only [Exit.inBlock, Exit.then])
    refine bodyPost_ret (v := .tuple #[.agg #[.int .i64 p, .int .i64 c], .int .i64 0]) ?_ rfl ⟨rfl, FIN.out _ (by repeat (first | exact Only.refl _ _ | refine Only.alloc ?_ _ | refine Only.setCell ?_ (Or.inl ?_) _ | exact Nat.le_refl _))⟩
    rw [results_cell_tmp rfl]
    go_simp

/-- What Move does. -/
def moveR (R : List Rw) (k : Key) (tr : Rid) : List Rw := match getR R k with
  | some r => insR R { r with f := tr }
  | none => R
def errOf {α : Type} : Option α → Value
  | some _ => .int .i64 0
  | none => .int .i64 9

theorem Fits.ins {R : List Rw} (h : Fits R) (r : Rw) (hr : 1 ≤ r.key.size ∧ r.key.size ≤ 8 ∧ r.sec.size ≤ 6) : Fits (insR R r) := by
  refine ⟨KS_insG h.ks r, fun r' hr' => ?_⟩
  rcases (mem_insG h.ks r r').1 hr' with rfl | ⟨_, h2⟩
  · exact hr
  · exact h.small r' h2
theorem Fits.del {R : List Rw} (h : Fits R) (k : Key) : Fits (delR R k) :=
  ⟨KS_delG h.ks k, fun r' hr' => h.small r' ((mem_delG h.ks k r').1 hr').2⟩

set_option maxRecDepth 100000 in
set_option maxHeartbeats 1000000 in
theorem move_any (w : World) (x : Nat) (R : List Rw) (F : List Nat) (k : Key) (tr : Rid) (h : IxAt w x R F) (hl : R.length ≤ 1000) :
    Calls Tryz.prog 10 #[ptr x, .string k, ridV tr] w (IxPost w x F (moveR R k tr) (errOf (getR R k))) := by
  obtain ⟨tp, tc⟩ := tr
  have HG := Lib.hid (fun ob => has_any (w.alloc ob) x R F k (h.still ((Still.refl w).alloc ob)))
  have ST := Lib.hid (fun ob => show Still w (w.alloc ob) from (Still.refl w).alloc ob)
  have B0 := Lib.hid (fun tt => cellsAt_new w [.int .i64 tp, .int .i64 tc] tt)
  have HI := Lib.hid h
  have hgs := fun y => getG_some (kf := Rw.key) (l := R) h.fits.ks (k := k) (y := y)
  have HX : Hid (∀ y, getR R k = some y → y.key = k ∧ y ∈ R) := Lib.hid fun y hy => (hgs y).1 hy
  have HM : Hid (moveR R k (tp, tc) = match getR R k with | some r => insR R { r with f := (tp, tc) } | none => R) := Lib.hid rfl
  clear h hgs
  generalize moveR R k (tp, tc) = R' at *
  generalize getR R k = o at *
  unfold ptr at HG
  unfold ptr ridV
  go_enter Tryz.func10, Tryz.ntmps10
  go_wp2_with fail
  have SW := Lib.hid (ST.out (.cells #[.int .i64 tp, .int .i64 tc] 31))
  have B1 := Lib.hid (B0.out 31)
  have G1 := Lib.hid (HG.out (.cells #[.int .i64 tp, .int .i64 tc] 31))
  clear B0 ST HG
  have hb : w.heap.size ≤ w.heap.size := Nat.le_refl _
  generalize w.alloc _ = W at *
  generalize hbx : w.heap.size = bx at *
  have HB := Lib.hid hbx
  clear hb hbx
  refine G1.out.mono ?_
  rintro e w2 ⟨rfl, hs⟩
  cases o with
  | none =>
    have F0 := Lib.hid (show ∀ ob, IxPost w x F R' (.int .i64 9) (.returned (.int .i64 9)) (w2.alloc ob) from fun ob => by
      have e : R' = R := HM.out
      rw [e]
      exact IxPost.same HI.out ((SW.out.trans hs).alloc ob))
    clear hs
    unfold hasV
    go_wp2_with fail
    go_ret
    exact F0.out _
  | some r =>
    obtain ⟨hk, hr⟩ := HX.out r rfl
    obtain ⟨a, b, F1, F2, l, hv, rfl⟩ := HI.out
    have hv2 : ∀ ob, IxV (w2.alloc ob) x R a b F1 F2 l := fun ob => hv.still ((SW.out.trans hs).alloc ob)
    obtain ⟨rk, rs, ⟨rp, rc⟩, rn⟩ := r
    have c0 : ∀ ob, (w2.alloc ob).cell? ⟨x, 0, none⟩ = some (.pointer (some ⟨a, 0, none⟩)) := fun ob => (hv2 ob).cells.cell 0
    have hbb : ∀ ob, cellsAt (w2.alloc ob) bx [.int .i64 tp, .int .i64 tc] := fun ob => (cellsAt.still hs B1.out).alloc ob
    have q0 : ∀ ob, (w2.alloc ob).cell? ⟨bx, 0, none⟩ = some (.int .i64 tp) := fun ob => (hbb ob).cell 0
    have q1 : ∀ ob, (w2.alloc ob).cell? ⟨bx, 1, none⟩ = some (.int .i64 tc) := fun ob => (hbb ob).cell 1
    have d2 : ∀ tt, (w2.alloc (.cells #[.int .i64 rp, .int .i64 rc, .string rs] tt)).cell? ⟨w2.heap.size, 2, none⟩ = some (.string rs) := fun tt => (cellsAt_new w2 [.int .i64 rp, .int .i64 rc, .string rs] tt).cell 2
    unfold hasV
    have HV2 := Lib.hid hv2
    have HN := Lib.hid (And.intro hv.two (And.intro hv.fits (And.intro hr hk)))
    clear hv2 hbb hv hr hk
    go_wp2_with fail
    have s0 := c0 (.cells #[.int .i64 rp, .int .i64 rc, .string rs] 58)
    have s1 := q0 (.cells #[.int .i64 rp, .int .i64 rc, .string rs] 58)
    have s2 := q1 (.cells #[.int .i64 rp, .int .i64 rc, .string rs] 58)
    have s3 := d2 58
    have HV := Lib.hid (HV2.out (.cells #[.int .i64 rp, .int .i64 rc, .string rs] 58))
    have SV := Lib.hid ((SW.out.trans hs).alloc (.cells #[.int .i64 rp, .int .i64 rc, .string rs] 58))
    clear c0 q0 q1 d2 HV2 hs
    generalize w2.alloc _ = W2 at *
    generalize w2.heap.size = by_ at *
    have HP := Lib.hid (Ke.tput W2.drew a (one R) F1 k (tp, tc, rs) (HV.out.t1.still (Only.drew (Only.refl _ _))) (by rw [one_length]; omega))
    unfold Ke.ridV ptr at HP
    have FIN := Lib.hid (fun F1' W' (h1 : Ke.TreeAt W' a (Ke.insL (one R) k (tp, tc, rs)) F1') (h2 : Only (fun c => c ∈ F1) W2.drew W') (h3 : ∀ c ∈ F1', c ∈ F1 ∨ W2.drew.heap.size ≤ c) =>
      show IxPost w x (x :: (F1 ++ F2)) R' (.int .i64 0) (.returned (.int .i64 0)) W' from by
        have e : R' = insR R ⟨rk, rs, (tp, tc), rn⟩ := HM.out
        have hk' : rk = k := HN.out.2.2.2
        have hsw : Still w W2.drew := Only.drew SV.out
        have h4 : Ke.TreeAt W' a (one R') F1' := by rw [e, one_ins, hk']; exact h1
        have h6 := HN.out.2.1.small _ HN.out.2.2.1
        have h5 := (HV.out.still (Only.drew (Only.refl _ _))).turn1 h4 h2 h3 (by
          rw [e]
          exact Two.move HN.out.1 HN.out.2.1.ks HN.out.2.2.1 rfl rfl rfl) (by
          rw [e]
          exact HN.out.2.1.ins _ h6)
        refine ⟨_, rfl, ⟨_, _, _, _, _, h5, rfl⟩, (hsw.only.trans (h2.mono fun c hc => by simp [hc])), fun c hc => ?_⟩
        have hsz := hsw.size
        simp only [List.mem_cons, List.mem_append] at hc ⊢
        rcases hc with hc | hc | hc
        · exact .inl (.inl hc)
        · rcases h3 c hc with h | h
          · exact .inl (.inr (.inl h))
          · exact .inr (by omega)
        · exact .inl (.inr (.inr hc)))
    clear HV SV HN HM
    go_wp2_with fail
    go_still_tail 9, (by kernel_rfl)
    go_wp2_with fail
    refine HP.out.mono ?_
    rintro e w3 ⟨F1', rfl, h1, h2, h3⟩
    have F0 := Lib.hid (FIN.out _ _ h1 h2 h3)
    clear h1 h2 h3
    go_wp2_with fail
    go_ret
    exact F0.out
end Go.Proofs.YtedfijmaeoednaaGreatDoor

namespace Go.Proofs.YtedfijmaeoednaaGreatDoor
open Go.RowKit Go.Wh Go.Proofs.YtedfijmaeoednaaGreatDoor.Tw

/-- What Mend does. -/
def mendR (R : List Rw) (k : Key) : List Rw := match getR R k with
  | some r => insR R { r with n := r.f }
  | none => R

theorem IxV.post2 {w w1 w2 : World} {x : Nat} {R R' : List Rw} {a b : Nat} {F1 F2 F2' : List Nat} {l l' : Nd 0} {v : Value} (hs : Still w w1) (h : IxV w1 x R a b F1 F2 l) (h1 : TreeAt w2 b l' F2') (ho : Only (fun c => c ∈ F2) w1 w2) (hn : ∀ c ∈ F2', c ∈ F2 ∨ w1.heap.size ≤ c)
    (h2 : Two R' l') (hf : Fits R') (hR : one R' = one R) : IxPost w x (x :: (F1 ++ F2)) R' v (.returned v) w2 := by
  have h5 := h.turn2 h1 ho hn h2 hf hR
  refine ⟨_, rfl, ⟨_, _, _, _, _, h5, rfl⟩, (hs.only.trans (ho.mono fun c hc => by simp [hc])), fun c hc => ?_⟩
  have hsz := hs.size
  simp only [List.mem_cons, List.mem_append] at hc ⊢
  rcases hc with hc | hc | hc
  · exact .inl (.inl hc)
  · exact .inl (.inr (.inl hc))
  · rcases hn c hc with h | h
    · exact .inl (.inr (.inr h))
    · exact .inr (by omega)

theorem one_mend {R : List Rw} (hs : KS (rkeys R)) {r r' : Rw} (hr : r ∈ R) (hk : r'.key = r.key) (h : keptOf r' = keptOf r) : one (insR R r') = one R := by
  have hfun : ∀ y z : Rw, (y.key, keptOf y) = (z.key, keptOf z) → True := fun _ _ _ => trivial
  have h1 : KS ((one R).map Prod.fst) := by have := one_keys R; unfold Ke.keys at this; exact this ▸ hs
  have h2 : KS ((one (insR R r')).map Prod.fst) := by have := one_keys (insR R r'); unfold Ke.keys at this; exact this ▸ KS_insG hs r'
  refine KS.ext (kf := (Prod.fst : Key × Ke.E 0 → Key)) h2 h1 fun y => ?_
  unfold one
  constructor
  · intro hy
    obtain ⟨z, hz, rfl⟩ := List.mem_map.1 hy
    rcases (mem_insG hs _ _).1 hz with rfl | ⟨_, hz⟩
    · exact List.mem_map.2 ⟨r, hr, by rw [hk, h]⟩
    · exact List.mem_map.2 ⟨z, hz, rfl⟩
  · intro hy
    obtain ⟨z, hz, rfl⟩ := List.mem_map.1 hy
    by_cases e : z.key = r'.key
    · have hzr : z = r := KS.nodup_of hs hz hr (e.trans hk)
      subst hzr
      exact List.mem_map.2 ⟨r', (mem_insG hs _ _).2 (.inl rfl), by rw [hk, h]⟩
    · exact List.mem_map.2 ⟨z, (mem_insG hs _ _).2 (.inr ⟨e, hz⟩), rfl⟩

set_option maxRecDepth 100000 in
set_option maxHeartbeats 1000000 in
theorem mend_any (w : World) (x : Nat) (R : List Rw) (F : List Nat) (k : Key) (h : IxAt w x R F) (hl : R.length ≤ 1000) :
    Calls Tryz.prog 12 #[ptr x, .string k] w (IxPost w x F (mendR R k) (errOf (getR R k))) := by
  have HG := Lib.hid (has_any w x R F k h)
  have HI := Lib.hid h
  have hgs := fun y => getG_some (kf := Rw.key) (l := R) h.fits.ks (k := k) (y := y)
  have HX : Hid (∀ y, getR R k = some y → y.key = k ∧ y ∈ R) := Lib.hid fun y hy => (hgs y).1 hy
  have HM : Hid (mendR R k = match getR R k with | some r => insR R { r with n := r.f } | none => R) := Lib.hid rfl
  clear h hgs
  generalize mendR R k = R' at *
  generalize getR R k = o at *
  unfold ptr at HG
  unfold ptr
  go_enter Tryz.func12, Tryz.ntmps12
  go_wp2_with fail
  refine HG.out.mono ?_
  rintro e w2 ⟨rfl, hs⟩
  cases o with
  | none =>
    have F0 := Lib.hid (show ∀ ob, IxPost w x F R' (.int .i64 9) (.returned (.int .i64 9)) (w2.alloc ob) from fun ob => by
      have e : R' = R := HM.out
      rw [e]
      exact IxPost.same HI.out (hs.alloc ob))
    clear hs
    unfold hasV
    go_wp2_with fail
    go_ret
    exact F0.out _
  | some r =>
    obtain ⟨hk, hr⟩ := HX.out r rfl
    obtain ⟨a, b, F1, F2, l, hv, rfl⟩ := HI.out
    have hv2 : ∀ ob, IxV (w2.alloc ob) x R a b F1 F2 l := fun ob => hv.still (hs.alloc ob)
    obtain ⟨rk, rs, ⟨rp, rc⟩, rn⟩ := r
    have c0 : ∀ ob, (w2.alloc ob).cell? ⟨x, 1, none⟩ = some (.pointer (some ⟨b, 0, none⟩)) := fun ob => (hv2 ob).cells.cell 1
    have d0 : ∀ tt, cellsAt (w2.alloc (.cells #[.int .i64 rp, .int .i64 rc, .string rs] tt)) w2.heap.size [.int .i64 rp, .int .i64 rc, .string rs] := fun tt => (cellsAt_new w2 [.int .i64 rp, .int .i64 rc, .string rs] tt)
    unfold hasV
    have HV2 := Lib.hid hv2
    have hsm := hv.fits.small _ hr
    have HN := Lib.hid (And.intro hv.two (And.intro hv.fits (And.intro hr (And.intro hk hsm))))
    have D0 := Lib.hid d0
    clear hv2 hv hr hk d0 hsm
    go_wp2_with fail
    have s0 := c0 (.cells #[.int .i64 rp, .int .i64 rc, .string rs] 58)
    have hbx := D0.out 58
    have HV := Lib.hid (HV2.out (.cells #[.int .i64 rp, .int .i64 rc, .string rs] 58))
    have SV := Lib.hid (hs.alloc (.cells #[.int .i64 rp, .int .i64 rc, .string rs] 58))
    clear c0 D0 HV2 hs
    generalize w2.alloc _ = W2 at *
    generalize w2.heap.size = bx at *
    have s1 := hbx.cell 0
    have s2 := hbx.cell 1
    have s3 := hbx.cell 2
    simp only [List.getElem?_cons_zero, List.getElem?_cons_succ] at s1 s2 s3
    have SS := Lib.hid (fun w' (hst : Still W2 w') => show w'.cell? ⟨x, 1, none⟩ = some (.pointer (some ⟨b, 0, none⟩)) ∧ w'.cell? ⟨bx, 0, none⟩ = some (.int .i64 rp) ∧ w'.cell? ⟨bx, 1, none⟩ = some (.int .i64 rc) ∧ w'.cell? ⟨bx, 2, none⟩ = some (.string rs) from
      ⟨hst.cell s0, hst.cell s1, hst.cell s2, hst.cell s3⟩)
    have HJ := Lib.hid (fun (w' : World) (hst : Still W2 w') => join_of rs k (jB rs k) w' ((HV.out.still hst).m) (by have := HN.out.2.2.2.2; have := this.2.2; omega) (by have h1 := HN.out.2.2.2.1; have h2 := HN.out.2.2.2.2; rw [← h1]; omega) rfl)
    have HT := Lib.hid (fun (w' : World) (hst : Still W2 w') => tput w' b l F2 (jB rs k) (rp, rc) ((HV.out.still hst).t2) (by have := HN.out.1.len; omega))
    unfold ridV ptr at HT
    have FIN := Lib.hid (fun (w3 : World) (hst : Still W2 w3) F2' W' (h1 : TreeAt W' b (insL l (jB rs k) (rp, rc)) F2') (h2 : Only (fun c => c ∈ F2) w3 W') (h3 : ∀ c ∈ F2', c ∈ F2 ∨ w3.heap.size ≤ c) =>
      show IxPost w x (x :: (F1 ++ F2)) R' (.int .i64 0) (.returned (.int .i64 0)) W' from by
        have e : R' = insR R ⟨rk, rs, (rp, rc), (rp, rc)⟩ := HM.out
        have hk' : rk = k := HN.out.2.2.2.1
        have hr := HN.out.2.2.1
        subst hk'
        refine IxV.post2 (SV.out.trans hst) (HV.out.still hst) h1 h2 h3 ?_ ?_ ?_
        · rw [e]
          refine Two.put HN.out.1 HN.out.2.1.ks ⟨rk, rs, (rp, rc), (rp, rc)⟩ fun r' hr' e' => ?_
          rw [KS.nodup_of HN.out.2.1.ks hr' hr e']
          rfl
        · rw [e]
          exact HN.out.2.1.ins _ HN.out.2.2.2.2
        · rw [e]
          exact one_mend HN.out.2.1.ks hr rfl rfl)
    clear HV SV HN HM hbx
    generalize jB rs k = j at *
    go_wp2_with fail
    refine wp_region_D_drew (D := (fun i => [0, 1, 2, 4, 6, 8, 10].contains i)) (S := (fun w' => w'.cell? ⟨x, 1, none⟩ = some (.pointer (some ⟨b, 0, none⟩)) ∧ w'.cell? ⟨bx, 0, none⟩ = some (.int .i64 rp) ∧ w'.cell? ⟨bx, 1, none⟩ = some (.int .i64 rc) ∧ w'.cell? ⟨bx, 2, none⟩ = some (.string rs))) (by kernel_rfl) ?_ (fun hHeld => ?_)
    · ((try dsimp only) <;> (first | (with_reducible exact SS.out _ hst3) | (with_reducible exact SS.out _ (still_drew W2))))
    (refine takeD (i := 0) (some 15) (v := ?_) rfl (by rfl) (by rfl) (by kernel_rfl) (by rfl) (fun _ _ _ h => h) ?_ ?_; rotate_left; (intro w; go_simp; try with_reducible rfl); try go_frame)
    (refine takeD (i := 1) (some 16) (v := ?_) rfl (by rfl) (by rfl) (by kernel_rfl) (by rfl) (fun _ _ _ h => h) ?_ ?_; rotate_left; (intro w; go_simp; try with_reducible rfl); try go_frame)
    (refine takeD (i := 2) (some 17) (v := ?_) rfl (by rfl) (by rfl) (by kernel_rfl) (by rfl) (fun _ _ _ h => h) ?_ ?_; rotate_left; (intro w; go_simp; try with_reducible rfl); try go_frame)
    (refine takeD (i := 4) (some 19) (v := ?_) rfl (by rfl) (by rfl) (by kernel_rfl) (by rfl) (fun _ _ _ h => h) ?_ ?_; rotate_left; (intro w; go_simp; try with_reducible rfl); try go_frame)
    (refine takeD (i := 6) (some 21) (v := ?_) rfl (by rfl) (by rfl) (by kernel_rfl) (by rfl) (fun _ _ _ h => h) ?_ ?_; rotate_left; (intro w; go_simp; try with_reducible rfl); try go_frame)
    (refine takeD (i := 8) (some 23) (v := ?_) rfl (by rfl) (by rfl) (by kernel_rfl) (by rfl) (fun _ _ _ h => h) ?_ ?_; rotate_left; (intro w; go_simp; try with_reducible rfl); try go_frame)
    (refine takeS (i := 3) (some 18) (v := ?_) rfl (by rfl) (by rfl) (by kernel_rfl) (by rfl) (fun _ _ _ h => h) (by assumption) ?_ ?_; rotate_left; (intro w hSw; (try dsimp only at hSw); go_simp; try with_reducible rfl); try go_frame)
    (refine takeS (i := 5) (some 20) (v := ?_) rfl (by rfl) (by rfl) (by kernel_rfl) (by rfl) (fun _ _ _ h => h) (by assumption) ?_ ?_; rotate_left; (intro w hSw; (try dsimp only at hSw); go_simp; try with_reducible rfl); try go_frame)
    (refine takeS (i := 9) (some 24) (v := ?_) rfl (by rfl) (by rfl) (by kernel_rfl) (by rfl) (fun _ _ _ h => h) (by assumption) ?_ ?_; rotate_left; (intro w hSw; (try dsimp only at hSw); go_simp; try with_reducible rfl); try go_frame)
    refine wpAnyD_ready (rs := [7]) (by kernel_rfl) (by simp) ?_
    refine ReadyD.cons rfl (fun K hK => ?_) ?_
    go_simp
    first | (go_at_call 29; (with_reducible refine (HJ.out _ (still_drew W2)).mono ?_); rintro e w3 ⟨rfl, hb3, hm3⟩; have hst3 : Still W2 w3 := (still_drew W2).trans (still_below hb3)) | (go_at_call 32; (with_reducible refine (HT.out _ hst3).mono ?_); rintro e w4 ⟨F2', rfl, h1, h2, h3⟩)
    go_wp2_with fail
    (refine hK.out _ _ ?_ (fun hNew => ?_); (focus ((try dsimp only) <;> (first | (with_reducible exact SS.out _ hst3) | (with_reducible exact SS.out _ (still_drew W2))))); clear hHeld; have hHeld := hNew; clear hNew)
    (clear hK K; try go_frame)
    refine wpAnyD_ready (rs := [10]) (by kernel_rfl) (by simp) ?_
    refine ReadyD.last rfl (by rfl) (fun K hK => ?_) ?_
    go_simp
    first | (go_at_call 29; (with_reducible refine (HJ.out _ (still_drew W2)).mono ?_); rintro e w3 ⟨rfl, hb3, hm3⟩; have hst3 : Still W2 w3 := (still_drew W2).trans (still_below hb3)) | (go_at_call 32; (with_reducible refine (HT.out _ hst3).mono ?_); rintro e w4 ⟨F2', rfl, h1, h2, h3⟩)
    go_wp2_with fail
    refine hK.out _ _ ?_
    (clear hK K; try go_frame)
    refine wpAnyD_done (by kernel_rfl) ?_ _
    rotate_left
    exact ReadyD.nil
    exact ReadyD.nil
    have F0 := Lib.hid (FIN.out _ hst3 _ _ h1 h2 h3)
    clear h1 h2 h3
    go_wp2_with fail
    go_ret
    exact F0.out
end Go.Proofs.YtedfijmaeoednaaGreatDoor
