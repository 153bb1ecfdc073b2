/- Putting into and cutting out of a balanced tree, as lists: what it has, in order, and how great its nodes are. No program. No conditions. -/
import Derived.Test.YtjmkfppnimengaaTreeE
namespace Go.Proofs.Ytjmkfppnimengaa
open Go.RowKit Go.Wh

def kr (k : Key) (v : Rid) : Key × E 0 := (k, v)
/-- A sorted row of keys and places: put. -/
def insL (l : Nd 0) (k : Key) (v : Rid) : Nd 0 :=
  l.take (pos (keys l) k) ++ kr k v :: l.drop (if hasK (keys l) k then pos (keys l) k + 1 else pos (keys l) k)

/-- The least key of a node. -/
def fk {d : Nat} (c : Nd d) : Key := (keys c).headD ⟨#[]⟩

/-- A row of a key and a node. -/
def kn {d : Nat} (k : Key) (c : Nd d) : Key × E (d + 1) := (k, c)
def nd {d : Nat} (x : Key × E (d + 1)) : Nd d := x.2
/-- A child that is too great is two. -/
def parted {d : Nat} (c : Nd d) : Nd (d + 1) :=
  if c.length ≤ 4 then [kn (fk c) c] else [kn (fk (c.take (c.length / 2))) (c.take (c.length / 2)), kn (fk (c.drop (c.length / 2))) (c.drop (c.length / 2))]

def sub {d : Nat} (l : Nd (d + 1)) (i : Nat) : Nd d := match l[i]? with
  | some x => nd x
  | none => []

/-- Put at a level. -/
def putM : (d : Nat) → Nd d → Key → Rid → Nd d
  | 0, l, k, v => insL l k v
  | d + 1, l, k, v => l.take (childI (keys l) k) ++ (parted (putM d (sub l (childI (keys l) k)) k v) ++ l.drop (childI (keys l) k + 1))
/-- Was it not there? -/
def putB : (d : Nat) → Nd d → Key → Bool
  | 0, l, k => !hasK (keys l) k
  | d + 1, l, k => putB d (sub l (childI (keys l) k)) k

/-- All that a tree has, in order. -/
def flat : (d : Nat) → Nd d → Nd 0
  | 0, l => l
  | d + 1, l => l.flatMap fun x => flat d (nd x)

/-- Below a node all are great enough, not too great, and known by their least keys. -/
def Fit : (d : Nat) → Nd d → Prop
  | 0, _ => True
  | d + 1, l => ∀ x ∈ l, 2 ≤ (nd x).length ∧ (nd x).length ≤ 4 ∧ x.1 = fk (nd x) ∧ Fit d (nd x)

/-- What a walk asks: leaves rise, nodes are not empty, not great. -/
def Able : (d : Nat) → Nd d → Prop
  | 0, l => KS (keys l) ∧ l.length ≤ 90
  | d + 1, l => 0 < l.length ∧ l.length ≤ 90 ∧ ∀ x ∈ l, Able d (nd x)

theorem insL_length (l : Nd 0) (k : Key) (v : Rid) : l.length ≤ (insL l k v).length ∧ (insL l k v).length ≤ l.length + 1 ∧ 0 < (insL l k v).length := by
  have h := pos_le (keys l) k
  rw [keys_length] at h
  unfold insL
  simp only [List.length_append, List.length_take, List.length_cons, List.length_drop]
  split <;> omega
theorem parted_length {d : Nat} (c : Nd d) : 1 ≤ (parted c).length ∧ (parted c).length ≤ 2 := by
  unfold parted
  split <;> simp
theorem putM_length : ∀ (d : Nat) (l : Nd d) (k : Key) (v : Rid), (d = 0 ∨ 0 < l.length) → l.length ≤ (putM d l k v).length ∧ (putM d l k v).length ≤ l.length + 1 ∧ 0 < (putM d l k v).length
  | 0, l, k, v, _ => insL_length l k v
  | d + 1, l, k, v, h => by
    have h0 : 0 < l.length := by omega
    have hi := childI_lt (ks := keys l) (fun e => by have := keys_length l; rw [e] at this; simp at this; omega) k
    rw [keys_length] at hi
    have hp := parted_length (putM d (sub l (childI (keys l) k)) k v)
    simp only [putM, List.length_append, List.length_take, List.length_drop]
    omega
theorem sub_mem {d : Nat} {l : Nd (d + 1)} {i : Nat} (h : i < l.length) : ∃ x ∈ l, l[i]? = some x ∧ sub l i = nd x := by
  refine ⟨l[i], List.getElem_mem h, List.getElem?_eq_getElem h, ?_⟩
  unfold sub
  rw [List.getElem?_eq_getElem h]
theorem able_child {d : Nat} {l : Nd (d + 1)} {i : Nat} (h : Able (d + 1) l) (hi : i < l.length) : Able d (sub l i) := by
  obtain ⟨x, hx, _, e⟩ := sub_mem hi
  rw [e]
  exact h.2.2 x hx
theorem able_length {d : Nat} {l : Nd d} (h : Able d l) : l.length ≤ 90 := by
  cases d with
  | zero => exact h.2
  | succ d => exact h.2.1
end Go.Proofs.Ytjmkfppnimengaa
