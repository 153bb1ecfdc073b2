/- Rows of spots: the order of keys, sorted rows, a row as cells. No conditions. -/
import Derived.Test.YtpppphalacojjaaVec
import Derived.Sort.Walk0
namespace Go.Proofs.Ytpppphalacojjaa
open Go.RowKit Go.Wh

/-- The order of keys. -/
def bl (a b : ByteArray) : Bool := Op.bytesLess a.toList b.toList
theorem bl_iff (a b : ByteArray) : bl a b = true ↔ a.toList < b.toList := by unfold bl; rw [bytesLess_eq]; simp
theorem bl_asymm {a b : ByteArray} (h : bl a b = true) : bl b a = false := by
  cases hb : bl b a with
  | false => rfl
  | true => exact absurd ((bl_iff a b).1 h) (List.lt_asymm ((bl_iff b a).1 hb))
theorem bl_trans {a b c : ByteArray} (h1 : bl a b = true) (h2 : bl b c = true) : bl a c = true := (bl_iff a c).2 (List.lt_trans ((bl_iff a b).1 h1) ((bl_iff b c).1 h2))
theorem toList_inj {a b : ByteArray} (h : a.toList = b.toList) : a = b := by
  rw [ByteArray.toList_eq, ByteArray.toList_eq] at h
  cases a; cases b
  simp only at h
  congr
  exact Array.toList_inj.1 h
theorem bl_total {a b : ByteArray} (h1 : bl a b = false) (h2 : bl b a = false) : a = b := by
  apply toList_inj
  have n1 : ¬ a.toList < b.toList := fun h => by rw [(bl_iff a b).2 h] at h1; cases h1
  have n2 : ¬ b.toList < a.toList := fun h => by rw [(bl_iff b a).2 h] at h2; cases h2
  exact List.le_antisymm (List.not_lt.1 n2) (List.not_lt.1 n1)
theorem bl_irrefl (a : ByteArray) : bl a a = false := by
  cases h : bl a a with
  | false => rfl
  | true => exact absurd (bl_asymm h) (by rw [h]; simp)
/-- Not behind: if b is not before a, and c not before b, then c is not before a. -/
theorem bl_ge {a b c : ByteArray} (h1 : bl b a = false) (h2 : bl c b = false) : bl c a = false := by
  cases h : bl c a with
  | false => rfl
  | true =>
    cases h3 : bl a b with
    | true => rw [bl_trans h h3] at h2; cases h2
    | false => rw [bl_total h3 h1] at h; rw [h] at h2; cases h2

/-- A spot: a key, and where its row is. -/
structure Spot where
  key : ByteArray
  p : Int
  c : Int
def sc (s : Spot) : List Value := [.string s.key, .int .i64 s.p, .int .i64 s.c]
def flat (l : List Spot) : List Value := l.flatMap sc
theorem flat_nil : flat [] = [] := rfl
theorem flat_cons (s : Spot) (l : List Spot) : flat (s :: l) = .string s.key :: .int .i64 s.p :: .int .i64 s.c :: flat l := rfl
theorem flat_append (l m : List Spot) : flat (l ++ m) = flat l ++ flat m := by simp [flat]
theorem flat_length (l : List Spot) : (flat l).length = l.length * 3 := by
  induction l with
  | nil => rfl
  | cons s l ih => rw [flat_cons]; simp [ih]; omega

/-- The cells of the spot behind F. -/
theorem flat_at (F : List Spot) (s : Spot) (G : List Spot) : (flat (F ++ s :: G))[F.length * 3]? = some (.string s.key) ∧ (flat (F ++ s :: G))[F.length * 3 + 1]? = some (.int .i64 s.p) ∧ (flat (F ++ s :: G))[F.length * 3 + 2]? = some (.int .i64 s.c) := by
  rw [flat_append, flat_cons]
  have e := flat_length F
  refine ⟨?_, ?_, ?_⟩ <;> rw [List.getElem?_append_right (by omega), e]
  · simp
  · rw [Nat.add_sub_cancel_left]; rfl
  · rw [Nat.add_sub_cancel_left]; rfl

theorem set_behind (A B : List Value) (n k : Nat) (v : Value) (h : A.length = n) : (A ++ B).set (n + k) v = A ++ B.set k v := by
  rw [List.set_append_right _ _ (by omega), h, Nat.add_sub_cancel_left]

def Sorted (l : List Spot) : Prop := l.Pairwise fun a b => bl b.key a.key = false
def Distinct (l : List Spot) : Prop := l.Pairwise fun a b => a.key ≠ b.key

theorem Distinct.perm {l m : List Spot} (h : Distinct l) (hp : l.Perm m) : Distinct m := (hp.pairwise_iff (fun {_ _} h => Ne.symm h)).1 h

/-- Laid in its place. -/
theorem Sorted.insert {P Q : List Spot} {x : Spot} (h : Sorted (P ++ Q)) (h1 : ∀ q ∈ Q, bl x.key q.key = true) (h2 : ∀ y P', P = P' ++ [y] → bl x.key y.key = false) : Sorted (P ++ x :: Q) := by
  unfold Sorted at h ⊢
  obtain ⟨hP, hQ, hPQ⟩ := List.pairwise_append.1 h
  refine List.pairwise_append.2 ⟨hP, List.pairwise_cons.2 ⟨fun q hq => bl_asymm (h1 q hq), hQ⟩, fun a ha b hb => ?_⟩
  rcases List.mem_cons.1 hb with rfl | hb
  · have hne : P ≠ [] := fun e => by rw [e] at ha; cases ha
    have e := (List.dropLast_concat_getLast hne).symm
    have hy := h2 _ _ e
    rw [e] at ha hP
    rcases List.mem_append.1 ha with ha | ha
    · have := (List.pairwise_append.1 hP).2.2 a ha _ (List.mem_singleton.2 rfl)
      exact bl_ge this hy
    · rw [List.mem_singleton.1 ha]
      exact hy
  · exact hPQ a ha b hb

/-- Two sorted rows of the same spots, with keys that differ, are one. -/
theorem sorted_unique : ∀ {l m : List Spot}, l.Perm m → Sorted l → Sorted m → Distinct l → l = m
  | [], m, hp, _, _, _ => by simpa using hp.symm.eq_nil.symm
  | a :: l, [], hp, _, _, _ => by simpa using hp.eq_nil
  | a :: l, b :: m, hp, hl, hm, hd => by
    have hdm : Distinct (b :: m) := hd.perm hp
    have hab : a = b := by
      have ha : a ∈ b :: m := hp.mem_iff.1 (by simp)
      have hb : b ∈ a :: l := hp.mem_iff.2 (by simp)
      rcases List.mem_cons.1 ha with e | ha
      · exact e
      · rcases List.mem_cons.1 hb with e | hb
        · exact e.symm
        · have h1 := (List.pairwise_cons.1 hl).1 b hb
          have h2 := (List.pairwise_cons.1 hm).1 a ha
          exact absurd (bl_total h2 h1) ((List.pairwise_cons.1 hd).1 b hb)
    subst hab
    rw [sorted_unique ((List.perm_cons a).1 hp) (List.pairwise_cons.1 hl).2 (List.pairwise_cons.1 hm).2 (List.pairwise_cons.1 hd).2]
end Go.Proofs.Ytpppphalacojjaa
