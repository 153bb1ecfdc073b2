/- Two texts as one: the plain law. No conditions. -/
import Derived.Test.YtbpllldmeeokgaaDoorTwinShelf
import Derived.Sort.Walk0
namespace Go.Proofs.YtbpllldmeeokgaaDoor
open Go.RowKit Go.Lib

/-- Each nought gets a mark behind it. -/
def esc : List UInt8 → List UInt8
  | [] => []
  | b :: l => if b = 0 then 0 :: 255 :: esc l else b :: esc l
theorem esc_zero (l : List UInt8) : esc (0 :: l) = 0 :: 255 :: esc l := by simp [esc]
theorem esc_other {b : UInt8} (h : b ≠ 0) (l : List UInt8) : esc (b :: l) = b :: esc l := by simp [esc, h]
theorem esc_append : ∀ (a b : List UInt8), esc (a ++ b) = esc a ++ esc b
  | [], _ => rfl
  | x :: a, b => by
    rw [List.cons_append]
    by_cases h : x = 0
    · subst h
      rw [esc_zero, esc_zero, esc_append a b]
      rfl
    · rw [esc_other h, esc_other h, esc_append a b]
      rfl
theorem esc_len : ∀ l : List UInt8, (esc l).length ≤ 2 * l.length
  | [] => by simp [esc]
  | x :: l => by
    have := esc_len l
    unfold esc
    split <;> simp <;> omega
theorem esc_free : ∀ l : List UInt8, (∀ b ∈ l, b ≠ 0) → esc l = l
  | [], _ => rfl
  | x :: l, h => by rw [esc_other (h x (by simp)), esc_free l (fun b hb => h b (by simp [hb]))]

def joinL (a b : List UInt8) : List UInt8 := esc a ++ ([0, 1] ++ b)

/-- Where a nought is. -/
theorem index_zero : ∀ (l : List UInt8), (index l [0] = -1 ∧ ∀ b ∈ l, b ≠ 0) ∨ ∃ i r, index l [0] = (i : Nat) ∧ i < l.length ∧ l.drop i = 0 :: r ∧ ∀ b ∈ l.take i, b ≠ 0
  | [] => .inl ⟨rfl, fun _ h => by cases h⟩
  | x :: l => by
    by_cases hx : x = 0
    · subst hx
      exact .inr ⟨0, l, rfl, by simp, rfl, by simp⟩
    · have hp : ([0] : List UInt8).isPrefixOf (x :: l) = false := by simp [List.isPrefixOf]; exact fun h => hx h.symm
      unfold index
      rw [hp]
      rcases index_zero l with ⟨h1, h2⟩ | ⟨i, r, h1, h2, h3, h4⟩
      · refine .inl ⟨by rw [h1]; rfl, fun b hb => ?_⟩
        rcases List.mem_cons.1 hb with rfl | hb
        · exact hx
        · exact h2 b hb
      · refine .inr ⟨i + 1, r, ?_, by simp; omega, by simpa using h3, fun b hb => ?_⟩
        · have : ¬ (index l [0] == -1) = true := fun e => by have := beq_iff_eq.1 e; omega
          rw [if_neg (by simp), if_neg this, h1]
          rfl
        · rw [List.take_succ_cons] at hb
          rcases List.mem_cons.1 hb with rfl | hb
          · exact hx
          · exact h4 b hb

theorem replaceK_zero : ∀ (n : Nat) (l : List UInt8), l.length ≤ n → replaceK [0] [0, 255] (count l [0]) l = esc l
  | n, l, hn => by
    rcases index_zero l with ⟨h1, h2⟩ | ⟨i, r, h1, h2, h3, h4⟩
    · rw [count_miss h1, esc_free l h2]
      rfl
    · rw [count_hit (by simp) h1, Nat.add_comm, replaceK_hit _ _ _ _ _ h1]
      have hd : l.drop (i + [(0 : UInt8)].length) = r := by
        have : l.drop (i + 1) = (l.drop i).drop 1 := by rw [List.drop_drop]
        show l.drop (i + 1) = r
        rw [this, h3]
        rfl
      rw [hd]
      match n, hn with
      | 0, hn => omega
      | n + 1, hn =>
        have hr : r.length ≤ n := by
          have := congrArg List.length h3
          simp at this
          omega
        rw [replaceK_zero n r hr]
        have e : l = l.take i ++ 0 :: r := by rw [← h3, List.take_append_drop]
        have e2 : esc l = esc (l.take i) ++ esc (0 :: r) := by rw [← esc_append, ← e]
        rw [e2, esc_free _ h4, esc_zero]
        simp

theorem replaceAll_zero (l : List UInt8) : replaceAll l [0] [0, 255] = esc l := by
  have e : (([0] : List UInt8) == [0, 255]) = false := by decide
  unfold replaceAll replace replaceNum
  rw [e, if_neg (by simp), if_pos (by omega)]
  exact replaceK_zero l.length l (Nat.le_refl _)

theorem count_zero_le (l : List UInt8) : count l [0] ≤ l.length + 1 := count_le l [0]

/-- The two texts of one. -/
def spl : List UInt8 → List UInt8 → Option (List UInt8 × List UInt8)
  | _, [] => none
  | _, [_] => none
  | acc, b :: c :: r => if b = 0 then (if c = 1 then some (acc, r) else if c = 255 then spl (acc ++ [0]) r else none) else spl (acc ++ [b]) (c :: r)

theorem spl_other {b : UInt8} (h : b ≠ 0) (acc l : List UInt8) : spl acc (b :: l) = spl (acc ++ [b]) l := by
  cases l with
  | nil => rfl
  | cons c r => simp [spl, h]
theorem spl_free : ∀ (p acc l : List UInt8), (∀ b ∈ p, b ≠ 0) → spl acc (p ++ l) = spl (acc ++ p) l
  | [], acc, l, _ => by simp
  | b :: p, acc, l, h => by
    rw [List.cons_append, spl_other (h b (by simp)), spl_free p _ l (fun x hx => h x (by simp [hx]))]
    simp
theorem spl_end (acc l : List UInt8) (h : ∀ b ∈ l, b ≠ 0) : spl acc l = none := by
  have := spl_free l acc [] h
  rw [List.append_nil] at this
  rw [this]
  rfl
theorem spl_join : ∀ (a acc b : List UInt8), spl acc (joinL a b) = some (acc ++ a, b)
  | [], acc, b => by simp [joinL, esc, spl]
  | x :: a, acc, b => by
    have ih := fun acc => spl_join a acc b
    unfold joinL at ih ⊢
    by_cases h : x = 0
    · subst h
      rw [esc_zero]
      have : spl acc (0 :: 255 :: esc a ++ ([0, 1] ++ b)) = spl (acc ++ [0]) (esc a ++ ([0, 1] ++ b)) := by
        simp only [List.cons_append]
        rw [spl]
        simp
      rw [this, ih]
      simp
    · rw [esc_other h, List.cons_append, spl_other h, ih]
      simp
theorem join_inj {a b c d : List UInt8} (h : joinL a b = joinL c d) : a = c ∧ b = d := by
  have h1 := spl_join a [] b
  rw [h, spl_join] at h1
  simpa using h1.symm

theorem lt_cons_same (x : UInt8) (a b : List UInt8) : (x :: a < x :: b) ↔ a < b := by
  rw [List.cons_lt_cons_iff]
  constructor
  · rintro (h | ⟨_, h⟩)
    · exact absurd h (UInt8.lt_irrefl x)
    · exact h
  · exact fun h => .inr ⟨rfl, h⟩
theorem zero_lt {x : UInt8} (h : x ≠ 0) : (0 : UInt8) < x := by
  rw [UInt8.lt_iff_toNat_lt]
  have : x.toNat ≠ 0 := fun e => h (UInt8.toNat_inj.1 e)
  show 0 < x.toNat
  omega

theorem join_lt : ∀ (a c b d : List UInt8), joinL a b < joinL c d ↔ (a < c ∨ (a = c ∧ b < d))
  | [], [], b, d => by
    show 0 :: 1 :: b < 0 :: 1 :: d ↔ _
    rw [lt_cons_same, lt_cons_same]
    simp
  | [], y :: c, b, d => by
    have h : ([] : List UInt8) < y :: c := List.nil_lt_cons y c
    refine ⟨fun _ => .inl h, fun _ => ?_⟩
    unfold joinL
    by_cases hy : y = 0
    · subst hy
      rw [esc_zero]
      show 0 :: 1 :: b < 0 :: 255 :: (esc c ++ ([0, 1] ++ d))
      rw [lt_cons_same, List.cons_lt_cons_iff]
      exact .inl (by decide)
    · rw [esc_other hy]
      show 0 :: 1 :: b < y :: (esc c ++ ([0, 1] ++ d))
      rw [List.cons_lt_cons_iff]
      exact .inl (zero_lt hy)
  | x :: a, [], b, d => by
    have hn : ¬ ((x :: a) < ([] : List UInt8) ∨ (x :: a = [] ∧ b < d)) := by simp
    refine ⟨fun h => absurd h ?_, fun h => absurd h hn⟩
    unfold joinL
    by_cases hx : x = 0
    · subst hx
      rw [esc_zero]
      show ¬ (0 :: 255 :: (esc a ++ ([0, 1] ++ b)) < 0 :: 1 :: d)
      rw [lt_cons_same, List.cons_lt_cons_iff]
      rintro (h | ⟨h, _⟩)
      · revert h; decide
      · revert h; decide
    · rw [esc_other hx]
      show ¬ (x :: (esc a ++ ([0, 1] ++ b)) < 0 :: 1 :: d)
      rw [List.cons_lt_cons_iff]
      rintro (h | ⟨h, _⟩)
      · exact absurd h (UInt8.lt_asymm (zero_lt hx))
      · exact hx h
  | x :: a, y :: c, b, d => by
    have ih := join_lt a c b d
    unfold joinL at ih ⊢
    by_cases hxy : x = y
    · subst hxy
      have hr : (x :: a < x :: c ∨ (x :: a = x :: c ∧ b < d)) ↔ (a < c ∨ (a = c ∧ b < d)) := by
        rw [lt_cons_same]
        simp
      rw [hr, ← ih]
      by_cases hx : x = 0
      · subst hx
        rw [esc_zero, esc_zero]
        show 0 :: 255 :: _ < 0 :: 255 :: _ ↔ _
        rw [lt_cons_same, lt_cons_same]
        exact Iff.rfl
      · rw [esc_other hx, esc_other hx]
        show x :: _ < x :: _ ↔ _
        rw [lt_cons_same]
        exact Iff.rfl
    · have hr : (x :: a < y :: c ∨ (x :: a = y :: c ∧ b < d)) ↔ x < y := by
        rw [List.cons_lt_cons_iff]
        simp [hxy]
      rw [hr]
      have e : ∀ (z : UInt8) (l m : List UInt8), ∃ t, esc (z :: l) ++ m = z :: t := fun z l m => by
        by_cases hz : z = 0
        · subst hz
          exact ⟨_, by rw [esc_zero]; rfl⟩
        · exact ⟨_, by rw [esc_other hz]; rfl⟩
      obtain ⟨t1, e1⟩ := e x a ([0, 1] ++ b)
      obtain ⟨t2, e2⟩ := e y c ([0, 1] ++ d)
      rw [e1, e2, List.cons_lt_cons_iff]
      simp [hxy]

/-- What begins with the front of a text is of that text. -/
theorem join_front (s k c : List UInt8) : ((joinL c []) <+: joinL s k) ↔ s = c := by
  constructor
  · rintro ⟨r, h⟩
    have e : joinL c [] ++ r = joinL c r := by simp [joinL]
    rw [e] at h
    exact (join_inj h).1.symm
  · rintro rfl
    exact ⟨k, by simp [joinL]⟩
end Go.Proofs.YtbpllldmeeokgaaDoor
