/- The rows of PlanRight: spots by a falling number, and what the sorted ones are. No conditions. -/
import Derived.Test.YtpppphalacojjaaPlanW
import Derived.Test.YtpppphalacojjaaPlanLeastM
namespace Go.Proofs.Ytpppphalacojjaa
open Go.RowKit Go.Wh

/-- A spot of number t, at place f t. -/
def nsp (f : Nat → Nat) (h : Int) (t : Nat) : Spot := ⟨kz t, h * 16 + ((f t : Nat) : Int) / 3, ((f t : Nat) : Int) % 3⟩

theorem nsp_sorted (f : Nat → Nat) (h : Int) (L : List Nat) (hL : L.Pairwise (· < ·)) (hb : ∀ t ∈ L, t < 256) : Sorted (L.map (nsp f h)) ∧ Distinct (L.map (nsp f h)) := by
  constructor
  · unfold Sorted
    rw [List.pairwise_map]
    refine hL.imp_of_mem fun {a b} ha hb' hab => ?_
    show bl (kz b) (kz a) = false
    rw [kz_lt (by omega) (by have := hb b hb'; omega) (by omega) (by have := hb a ha; omega)]
    simp; omega
  · unfold Distinct
    rw [List.pairwise_map]
    refine hL.imp_of_mem fun {a b} ha hb' hab e => ?_
    have := kz_inj (by omega) (by have := hb a ha; omega) (by omega) (by have := hb b hb'; omega) e
    omega

theorem nsp_unique {f : Nat → Nat} {h : Int} {L : List Nat} (hL : L.Pairwise (· < ·)) (hb : ∀ t ∈ L, t < 256) {m l' : List Spot} (hm : m.Perm (L.map (nsp f h))) (hp : l'.Perm m) (hs : Sorted l') : l' = L.map (nsp f h) ∧ Distinct m := by
  obtain ⟨h1, h2⟩ := nsp_sorted f h L hL hb
  exact ⟨(sorted_unique (hm.symm.trans hp.symm) h1 hs h2).symm, h2.perm hm.symm⟩

/-- c spots, falling from k - 1. -/
def dn (f : Nat → Nat) (h : Int) (k c : Nat) : List Spot := (List.range c).map fun j => nsp f h (k - 1 - j)
theorem dn_len (f : Nat → Nat) (h : Int) (k c : Nat) : (dn f h k c).length = c := by simp [dn]
theorem dn_next (f : Nat → Nat) (h : Int) (k c : Nat) : dn f h k (c + 1) = dn f h k c ++ [nsp f h (k - 1 - c)] := by simp [dn, List.range_succ]
theorem dn_at (f : Nat → Nat) (h : Int) (k c j : Nat) (hj : j < c) : (dn f h k c)[j]? = some (nsp f h (k - 1 - j)) := by simp [dn, hj]

/-- The falling ones are the rising ones from k - c on. -/
theorem dn_perm (f : Nat → Nat) (h : Int) (k : Nat) : ∀ c, c ≤ k → (dn f h k c).Perm ((List.range' (k - c) c).map (nsp f h))
  | 0, _ => by simp [dn]
  | c + 1, hc => by
    rw [dn_next]
    have e : List.range' (k - (c + 1)) (c + 1) = (k - (c + 1)) :: List.range' (k - c) c := by
      rw [List.range'_succ]
      congr 2
      omega
    rw [e, List.map_cons]
    have e2 : k - 1 - c = k - (c + 1) := by omega
    rw [e2]
    exact List.perm_append_comm.trans (List.Perm.cons _ (dn_perm f h k c (by omega)))

theorem range'_rise (a c : Nat) : (List.range' a c).Pairwise (· < ·) := List.pairwise_lt_range'

theorem dn_distinct (f : Nat → Nat) (h : Int) (k c : Nat) (hc : c ≤ k) (hk : k ≤ 48) : Distinct (dn f h k c) :=
  (nsp_unique (L := List.range' (k - c) c) (range'_rise _ _) (fun t ht => by rw [List.mem_range'_1] at ht; omega) (dn_perm f h k c hc) (dn_perm f h k c hc).symm (nsp_sorted f h _ (range'_rise _ _) (fun t ht => by rw [List.mem_range'_1] at ht; omega)).1).2

theorem dn_sorted {f : Nat → Nat} {h : Int} {k c : Nat} (hc : c ≤ k) (hk : k ≤ 48) {l' : List Spot} (hp : l'.Perm (dn f h k c)) (hs : Sorted l') : ∀ j, j < c → l'[j]? = some (nsp f h (k - c + j)) := by
  intro j hj
  rw [(nsp_unique (L := List.range' (k - c) c) (range'_rise _ _) (fun t ht => by rw [List.mem_range'_1] at ht; omega) (dn_perm f h k c hc) hp hs).1]
  rw [List.getElem?_map, List.getElem?_range' hj]
  simp

/-- Right of the falling ones, in their half, all of them. -/
theorem right_yes {h : Int} {k : Nat} (hk : k ≤ 48) {l' : List Spot} (hp : l'.Perm (dn id h k k)) (hs : Sorted l') : AllAt h l' := by
  intro i s hi
  have hl : l'.length = k := by rw [hp.length_eq, dn_len]
  have hik := (List.getElem?_eq_some_iff.1 hi).1
  rw [dn_sorted (Nat.le_refl k) hk hp hs i (by omega)] at hi
  injection hi with hi
  subst hi
  simp [okAt, nsp]

/-- Not in the other half. -/
theorem right_other {h h' : Int} {k : Nat} (hk : k ≤ 48) (hk0 : 0 < k) (hh : h ≠ h') {l' : List Spot} (hp : l'.Perm (dn id h k k)) (hs : Sorted l') : ¬ AllAt h' l' := by
  intro hall
  have := (hall 0 _ (dn_sorted (Nat.le_refl k) hk hp hs 0 hk0)).1
  simp [nsp] at this
  omega

/-- Not when the front is missing. -/
theorem right_gap {h : Int} {k : Nat} (hk : k ≤ 48) (hk0 : 2 ≤ k) {l' : List Spot} (hp : l'.Perm (dn id h k (k - 1))) (hs : Sorted l') : ¬ AllAt h l' := by
  intro hall
  have := (hall 0 _ (dn_sorted (by omega) hk hp hs 0 (by omega))).2
  have e : k - (k - 1) = 1 := by omega
  simp [nsp, e] at this

/-- Two have changed. -/
def swp (x y : Nat) (t : Nat) : Nat := if t = x then y else if t = y then x else t

theorem right_swap {h : Int} {k x y : Nat} (hk : k ≤ 48) (hx : x < k) {l' : List Spot} (hp : l'.Perm (dn (swp x y) h k k)) (hs : Sorted l') (hall : AllAt h l') : x = y := by
  have h1 := hall x _ (dn_sorted (Nat.le_refl k) hk hp hs x hx)
  simp only [okAt, nsp, Nat.sub_self, Nat.zero_add, swp, if_true] at h1
  omega

theorem swp_self (x : Nat) : swp x x = id := by
  funext t
  unfold swp
  split
  · rename_i h; rw [h]; rfl
  · rfl

/-- What stands in the row when two have changed places. -/
theorem dn_swap (h : Int) (k x y : Nat) (hx : x < k) (hy : y < k) : ((dn id h k k).set x ⟨kz ((k - 1 - x : Nat) : Int), (nsp id h (k - 1 - y)).p, (nsp id h (k - 1 - y)).c⟩).set y ⟨kz ((k - 1 - y : Nat) : Int), (nsp id h (k - 1 - x)).p, (nsp id h (k - 1 - x)).c⟩ = dn (swp (k - 1 - x) (k - 1 - y)) h k k := by
  apply List.ext_getElem?
  intro j
  rw [List.getElem?_set, List.getElem?_set]
  by_cases hj : j < k
  · rw [dn_at _ _ _ _ _ hj, dn_at _ _ _ _ _ hj]
    by_cases hjy : y = j
    · subst hjy
      rw [if_pos rfl, if_pos (by simp [dn_len, hy])]
      by_cases e : x = y
      · subst e
        simp [nsp, swp]
      · have e2 : ¬ k - 1 - y = k - 1 - x := by omega
        simp [nsp, swp, e2]
    · rw [if_neg hjy]
      by_cases hjx : x = j
      · subst hjx
        rw [if_pos rfl, if_pos (by simp [dn_len, hx])]
        simp [nsp, swp]
      · rw [if_neg hjx]
        have e1 : ¬ k - 1 - j = k - 1 - x := by omega
        have e2 : ¬ k - 1 - j = k - 1 - y := by omega
        simp [nsp, swp, e1, e2]
  · have e : ∀ f, (dn f h k k)[j]? = none := fun f => by
      rw [List.getElem?_eq_none_iff, dn_len]
      omega
    rw [e, e]
    have h1 : ¬ y = j := by omega
    have h2 : ¬ x = j := by omega
    simp [h1, h2]

/-- What Right answers to the falling ones. -/
theorem right_dn (f : Nat → Nat) (h h' : Int) (k c : Nat) (v : Value) (w : World) (hh : h' = 0 ∨ h' = 1) (hc : c ≤ k) (hk : k ≤ 48) (hv : Vec w 3 v c (flat (dn f h k c))) :
    Calls Try.prog 10 #[v, .int .i64 h'] w (RightPost w (dn f h k c) h') :=
  right_of (dn f h k c) v h' w hh (sorted_any v _ _ w (by rw [dn_len]; exact hv.reads) (by rw [dn_len]; omega)) (dn_distinct f h k c hc hk) (by rw [dn_len]; omega)

theorem right_dn_yes (h : Int) (k : Nat) (v : Value) (w : World) (hh : h = 0 ∨ h = 1) (hk : k ≤ 48) (hv : Vec w 3 v k (flat (dn id h k k))) :
    Calls Try.prog 10 #[v, .int .i64 h] w (BTrue w) := by
  refine (right_dn id h h k k v w hh (Nat.le_refl _) hk hv).mono ?_
  rintro e w' ⟨l', hp, hs, hb, h1 | h1⟩
  · exact ⟨h1.1, hb⟩
  · exact absurd (right_yes hk hp hs) h1.2

theorem right_dn_other (h h' : Int) (k : Nat) (v : Value) (w : World) (hh : h' = 0 ∨ h' = 1) (hne : h ≠ h') (hk : k ≤ 48) (hk0 : 0 < k) (hv : Vec w 3 v k (flat (dn id h k k))) :
    Calls Try.prog 10 #[v, .int .i64 h'] w (BFalse w) := by
  refine (right_dn id h h' k k v w hh (Nat.le_refl _) hk hv).mono ?_
  rintro e w' ⟨l', hp, hs, hb, h1 | h1⟩
  · exact absurd h1.2 (right_other hk hk0 hne hp hs)
  · exact ⟨h1.1, hb⟩

theorem right_dn_gap (h : Int) (k : Nat) (v : Value) (w : World) (hh : h = 0 ∨ h = 1) (hk : k ≤ 48) (hk0 : 2 ≤ k) (hv : Vec w 3 v (k - 1) (flat (dn id h k (k - 1)))) :
    Calls Try.prog 10 #[v, .int .i64 h] w (BFalse w) := by
  refine (right_dn id h h k (k - 1) v w hh (by omega) hk hv).mono ?_
  rintro e w' ⟨l', hp, hs, hb, h1 | h1⟩
  · exact absurd h1.2 (right_gap hk hk0 hp hs)
  · exact ⟨h1.1, hb⟩

def BIs (b : Bool) (w : World) (e : Ending) (w' : World) : Prop := e = .returned (.bool b) ∧ Below w.heap.size w w'
theorem right_dn_swap (h : Int) (k x y : Nat) (v : Value) (w : World) (hh : h = 0 ∨ h = 1) (hk : k ≤ 48) (hx : x < k) (hv : Vec w 3 v k (flat (dn (swp x y) h k k))) :
    Calls Try.prog 10 #[v, .int .i64 h] w (BIs (decide (x = y)) w) := by
  refine (right_dn (swp x y) h h k k v w hh (Nat.le_refl _) hk hv).mono ?_
  rintro e w' ⟨l', hp, hs, hb, h1 | h1⟩
  · have := right_swap hk hx hp hs h1.2
    exact ⟨by rw [h1.1]; simp [this], hb⟩
  · by_cases e : x = y
    · subst e
      rw [swp_self] at hp
      exact absurd (right_yes hk hp hs) h1.2
    · exact ⟨by rw [h1.1]; simp [e], hb⟩
end Go.Proofs.Ytpppphalacojjaa
