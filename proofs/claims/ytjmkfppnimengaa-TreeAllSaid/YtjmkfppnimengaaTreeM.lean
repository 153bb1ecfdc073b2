/- The order of keys, and where a key lies in a sorted row of keys. No conditions. -/
import Derived.Test.YtjmkfppnimengaaVecMore
import Derived.Sort.Walk0
namespace Go.Proofs.Ytjmkfppnimengaa
open Go.RowKit Go.Wh

abbrev Key := ByteArray
abbrev Rid := Int × Int

/-- The order of keys. -/
def bl (a b : Key) : Bool := Op.bytesLess a.toList b.toList
theorem bl_iff (a b : Key) : bl a b = true ↔ a.toList < b.toList := by unfold bl; rw [bytesLess_eq]; simp
theorem bl_asymm {a b : Key} (h : bl a b = true) : bl b a = false := by
  cases hb : bl b a with
  | false => rfl
  | true => exact absurd ((bl_iff a b).1 h) (List.lt_asymm ((bl_iff b a).1 hb))
theorem bl_trans {a b c : Key} (h1 : bl a b = true) (h2 : bl b c = true) : bl a c = true := (bl_iff a c).2 (List.lt_trans ((bl_iff a b).1 h1) ((bl_iff b c).1 h2))
theorem key_ext {a b : Key} (h : a.toList = b.toList) : a = b := by
  rw [ByteArray.toList_eq, ByteArray.toList_eq] at h
  cases a; cases b
  simp only at h
  congr
  exact Array.toList_inj.1 h
theorem bl_total {a b : Key} (h1 : bl a b = false) (h2 : bl b a = false) : a = b := by
  have n1 : ¬ a.toList < b.toList := fun h => by rw [(bl_iff a b).2 h] at h1; cases h1
  have n2 : ¬ b.toList < a.toList := fun h => by rw [(bl_iff b a).2 h] at h2; cases h2
  exact key_ext (List.le_antisymm (List.not_lt.1 n2) (List.not_lt.1 n1))
theorem bl_irrefl (a : Key) : bl a a = false := by
  cases h : bl a a with
  | false => rfl
  | true => exact absurd (bl_asymm h) (by rw [h]; simp)

/-- The keys rise. -/
def KS (l : List Key) : Prop := l.Pairwise fun a b => bl a b = true

/-- How many keys lie ahead of k. -/
def pos (l : List Key) (k : Key) : Nat := (l.takeWhile fun a => bl a k).length

theorem pos_le (l : List Key) (k : Key) : pos l k ≤ l.length := (List.takeWhile_sublist _).length_le

theorem pos_lt {l : List Key} (hs : KS l) (k : Key) {h : Nat} {a : Key} (ha : l[h]? = some a) : bl a k = true ↔ h < pos l k := by
  induction l generalizing h with
  | nil => simp at ha
  | cons x l ih =>
    unfold pos
    rw [List.takeWhile_cons]
    cases hx : bl x k with
    | true =>
      cases h with
      | zero =>
        simp at ha
        subst ha
        simp [hx]
      | succ h =>
        simp at ha
        have := ih (List.pairwise_cons.1 hs).2 ha
        unfold pos at this
        simp [this]
    | false =>
      simp
      cases h with
      | zero =>
        simp at ha
        subst ha
        exact hx
      | succ h =>
        simp at ha
        cases hak : bl a k with
        | false => rfl
        | true =>
          have h1 := (List.pairwise_cons.1 hs).1 a (List.mem_of_getElem? ha)
          rw [bl_trans h1 hak] at hx
          cases hx

/-- Is the key there? -/
def hasK (l : List Key) (k : Key) : Bool := decide (l[pos l k]? = some k)

/-- Which child a key belongs to, by the children's least keys. -/
def childI (ks : List Key) (k : Key) : Nat := (ks.tail.takeWhile fun a => !bl k a).length

theorem childI_lt {ks : List Key} (h : ks ≠ []) (k : Key) : childI ks k < ks.length := by
  cases ks with
  | nil => exact absurd rfl h
  | cons a l =>
    have := (List.takeWhile_sublist (fun a => !bl k a) (l := l)).length_le
    simp [childI]
    omega

/-- The cells of keys, places, children. -/
def kcells (l : List Key) : List Value := l.map .string
def rcells (l : List Rid) : List Value := l.flatMap fun r => [.int .i64 r.1, .int .i64 r.2]
def ptr (b : Nat) : Value := .pointer (some ⟨b, 0, none⟩)
def pcells (l : List Nat) : List Value := l.map ptr

theorem kcells_one (l : List Key) : ∀ u ∈ kcells l, u.oneCell' = true := by
  intro u hu
  simp only [kcells, List.mem_map] at hu
  obtain ⟨a, _, rfl⟩ := hu
  rfl
theorem pcells_one (l : List Nat) : ∀ u ∈ pcells l, u.oneCell' = true := by
  intro u hu
  simp only [pcells, List.mem_map] at hu
  obtain ⟨a, _, rfl⟩ := hu
  rfl
theorem rcells_one (l : List Rid) : ∀ u ∈ rcells l, u.oneCell' = true := by
  intro u hu
  simp only [rcells, List.mem_flatMap] at hu
  obtain ⟨a, _, hu⟩ := hu
  simp at hu
  rcases hu with rfl | rfl <;> rfl
theorem rcells_length (l : List Rid) : (rcells l).length = l.length * 2 := by
  induction l with
  | nil => rfl
  | cons a l ih =>
    have : rcells (a :: l) = [.int .i64 a.1, .int .i64 a.2] ++ rcells l := rfl
    rw [this]
    simp [ih]
    omega
theorem rcells_append (a b : List Rid) : rcells (a ++ b) = rcells a ++ rcells b := List.flatMap_append
theorem rcells_cons (a : Rid) (l : List Rid) : rcells (a :: l) = .int .i64 a.1 :: .int .i64 a.2 :: rcells l := rfl
theorem rcells_take (l : List Rid) (n : Nat) : (rcells l).take (n * 2) = rcells (l.take n) := by
  induction l generalizing n with
  | nil => simp [rcells]
  | cons a l ih =>
    cases n with
    | zero => simp [rcells]
    | succ n =>
      rw [rcells_cons, List.take_succ_cons, rcells_cons, ← ih, show (n + 1) * 2 = n * 2 + 1 + 1 by omega]
      rfl
theorem rcells_drop (l : List Rid) (n : Nat) : (rcells l).drop (n * 2) = rcells (l.drop n) := by
  induction l generalizing n with
  | nil => simp [rcells]
  | cons a l ih =>
    cases n with
    | zero => simp
    | succ n =>
      rw [rcells_cons, List.drop_succ_cons, ← ih, show (n + 1) * 2 = n * 2 + 1 + 1 by omega]
      rfl
theorem rcells_get (l : List Rid) (i : Nat) (r : Rid) (h : l[i]? = some r) : (rcells l)[i * 2]? = some (.int .i64 r.1) ∧ (rcells l)[i * 2 + 1]? = some (.int .i64 r.2) := by
  induction l generalizing i with
  | nil => simp at h
  | cons a l ih =>
    cases i with
    | zero =>
      simp at h
      subst h
      simp [rcells_cons]
    | succ i =>
      simp at h
      have := ih i h
      rw [rcells_cons, show (i + 1) * 2 = i * 2 + 1 + 1 by omega]
      simpa using this
theorem rcells_set (l : List Rid) (i : Nat) (r : Rid) (h : i < l.length) : ((rcells l).set (i * 2) (.int .i64 r.1)).set (i * 2 + 1) (.int .i64 r.2) = rcells (l.set i r) := by
  induction l generalizing i with
  | nil => simp at h
  | cons a l ih =>
    cases i with
    | zero => simp [rcells_cons]
    | succ i =>
      simp at h
      rw [rcells_cons, show (i + 1) * 2 = i * 2 + 1 + 1 by omega]
      simp only [List.set_cons_succ, rcells_cons]
      rw [ih i h]
end Go.Proofs.Ytjmkfppnimengaa
