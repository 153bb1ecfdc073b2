/- A key is cut out: what the nodes are then, as lists; and what the walk of it asks. Conditions: a tree in memory. -/
import Derived.Test.YtjmkfppnimengaaTreeS
namespace Go.Proofs.Ytjmkfppnimengaa
open Go.RowKit Go.Wh

def delL (l : Nd 0) (k : Key) : Nd 0 := if hasK (keys l) k then l.take (pos (keys l) k) ++ l.drop (pos (keys l) k + 1) else l
/-- Children, known by their least keys. -/
def reKey {d : Nat} (cs : List (Nd d)) : Nd (d + 1) := cs.map fun c => kn (fk c) c
/-- The children behind a cut in one of them. -/
def cutC {d : Nat} (f : Nd d → Nd d) (l : Nd (d + 1)) (i : Nat) : List (Nd d) := subs (l.take i) ++ ([f (sub l i)] ++ subs (l.drop (i + 1)))
def cutM : (d : Nat) → Nd d → Key → Nd d
  | 0, l, k => delL l k
  | d + 1, l, k => reKey (joinC (cutC (fun c => cutM d c k) l (childI (keys l) k)) (childI (keys l) k))
/-- Was it there? -/
def cutB : (d : Nat) → Nd d → Key → Bool
  | 0, l, k => hasK (keys l) k
  | d + 1, l, k => cutB d (sub l (childI (keys l) k)) k

/-- What the walk asks. -/
def CutAble : (d : Nat) → Nd d → Prop
  | 0, l => KS (keys l) ∧ l.length ≤ 90
  | d + 1, l => 0 < l.length ∧ l.length ≤ 90 ∧ ∀ x ∈ l, 2 ≤ (nd x).length ∧ (nd x).length ≤ 30 ∧ CutAble d (nd x)

theorem keys_reKey {d : Nat} (cs : List (Nd d)) : keys (reKey cs) = cs.map fk := by
  unfold keys reKey
  rw [List.map_map]
  rfl
theorem subs_reKey {d : Nat} (cs : List (Nd d)) : subs (reKey cs) = cs := by
  induction cs with
  | nil => rfl
  | cons c cs ih =>
    show c :: subs (reKey cs) = c :: cs
    rw [ih]
theorem reKey_length {d : Nat} (cs : List (Nd d)) : (reKey cs).length = cs.length := List.length_map _

theorem halves_length {d : Nat} (c : Nd d) : 1 ≤ (halves c).length ∧ (halves c).length ≤ 2 := by
  unfold halves
  split <;> simp
theorem halves_pos {d : Nat} {c : Nd d} (h : 0 < c.length) : ∀ x ∈ halves c, 0 < x.length := by
  unfold halves
  split
  · intro x hx
    simp at hx
    rw [hx]; exact h
  · intro x hx
    simp only [List.mem_cons, List.not_mem_nil, or_false] at hx
    rcases hx with rfl | rfl
    · rw [List.length_take]; omega
    · rw [List.length_drop]; omega
theorem at_mem {d : Nat} {cs : List (Nd d)} {i : Nat} (h : i < cs.length) : at' cs i ∈ cs := by
  unfold at'
  rw [List.getElem?_eq_getElem h]
  exact List.getElem_mem h
theorem joinC_length {d : Nat} (cs : List (Nd d)) (i : Nat) (h : i < cs.length) : cs.length - 1 ≤ (joinC cs i).length ∧ (joinC cs i).length ≤ cs.length ∧ 0 < (joinC cs i).length := by
  unfold joinC
  split
  · omega
  · have := halves_length (at' cs (i - 1) ++ at' cs (i - 1 + 1))
    simp only [List.length_append, List.length_take, List.length_drop] at this ⊢
    omega
theorem joinC_pos {d : Nat} {cs : List (Nd d)} {i : Nat} (h : i < cs.length) (hp : ∀ c ∈ cs, 0 < c.length) : ∀ c ∈ joinC cs i, 0 < c.length := by
  unfold joinC
  split
  · exact hp
  · intro c hc
    rcases List.mem_append.1 hc with hc | hc
    · exact hp c (List.mem_of_mem_take hc)
    · rcases List.mem_append.1 hc with hc | hc
      · refine halves_pos ?_ c hc
        have := hp _ (at_mem (cs := cs) (i := i - 1) (by omega))
        rw [List.length_append]
        omega
      · exact hp c (List.mem_of_mem_drop hc)
theorem cutC_length {d : Nat} (f : Nd d → Nd d) (l : Nd (d + 1)) (i : Nat) (h : i < l.length) : (cutC f l i).length = l.length := by
  unfold cutC
  simp only [List.length_append, subs_length, List.length_take, List.length_drop, List.length_cons, List.length_nil]
  omega
theorem delL_length (l : Nd 0) (k : Key) : l.length - 1 ≤ (delL l k).length ∧ (delL l k).length ≤ l.length := by
  unfold delL
  have h := pos_le (keys l) k
  rw [keys_length] at h
  split
  · simp only [List.length_append, List.length_take, List.length_drop]
    omega
  · omega
theorem child_lt {d : Nat} {l : Nd (d + 1)} (h : 0 < l.length) (k : Key) : childI (keys l) k < l.length := by
  have hkl := keys_length l
  have := childI_lt (ks := keys l) (fun e => by rw [e] at hkl; simp at hkl; omega) k
  omega
theorem cutM_length : ∀ (d : Nat) (l : Nd d) (k : Key), (d = 0 ∨ 0 < l.length) → l.length - 1 ≤ (cutM d l k).length ∧ (cutM d l k).length ≤ l.length
  | 0, l, k, _ => delL_length l k
  | d + 1, l, k, h => by
    have hi := child_lt (show 0 < l.length by omega) k
    have h1 := cutC_length (fun c => cutM d c k) l (childI (keys l) k) hi
    have h2 := joinC_length (cutC (fun c => cutM d c k) l (childI (keys l) k)) (childI (keys l) k) (by omega)
    unfold cutM
    rw [reKey_length]
    omega
theorem cutAble_child {d : Nat} {l : Nd (d + 1)} {i : Nat} (h : CutAble (d + 1) l) (hi : i < l.length) : 2 ≤ (sub l i).length ∧ (sub l i).length ≤ 30 ∧ CutAble d (sub l i) := by
  obtain ⟨x, hx, _, e⟩ := sub_mem hi
  rw [e]
  exact h.2.2 x hx
theorem subs_mem {d : Nat} {l : Nd (d + 1)} {c : Nd d} (h : c ∈ subs l) : ∃ x ∈ l, nd x = c := by
  unfold subs at h
  obtain ⟨x, hx, e⟩ := List.mem_map.1 h
  exact ⟨x, hx, e⟩
theorem cutC_mem {d : Nat} {f : Nd d → Nd d} {l : Nd (d + 1)} {i : Nat} {c : Nd d} (h : c ∈ cutC f l i) : c = f (sub l i) ∨ ∃ x ∈ l, nd x = c := by
  unfold cutC at h
  rcases List.mem_append.1 h with h | h
  · obtain ⟨x, hx, e⟩ := subs_mem h
    exact .inr ⟨x, List.mem_of_mem_take hx, e⟩
  · rcases List.mem_append.1 h with h | h
    · simp at h
      exact .inl h
    · obtain ⟨x, hx, e⟩ := subs_mem h
      exact .inr ⟨x, List.mem_of_mem_drop hx, e⟩
/-- All children are neither empty nor great behind the cut in one of them. -/
theorem cutC_fine {d : Nat} {l : Nd (d + 1)} {i : Nat} {k : Key} (h : CutAble (d + 1) l) (hi : i < l.length) : ∀ c ∈ cutC (fun c => cutM d c k) l i, 0 < c.length ∧ c.length ≤ 30 := by
  intro c hc
  rcases cutC_mem hc with rfl | ⟨x, hx, rfl⟩
  · have h1 := cutAble_child h hi
    have h2 := cutM_length d (sub l i) k (.inr (by omega))
    omega
  · have := h.2.2 x hx
    omega

def CutPost (d : Nat) (w : World) (r : Nat) (l : Nd d) (F : List Nat) (k : Key) (e : Ending) (w' : World) : Prop :=
  ∃ F', e = .returned (.bool (cutB d l k)) ∧ At d w' r (cutM d l k) F' ∧ Only (fun b => b ∈ F) w w' ∧ ∀ b ∈ F', b ∈ F ∨ w.heap.size ≤ b

theorem cutLeaf_del (l : Nd 0) (k : Key) : cutLeaf (keys l) (vals l) k = (keys (delL l k), vals (delL l k)) := by
  unfold cutLeaf delL
  split
  · rw [keys_append, vals_append, keys_take, keys_drop, vals_take, vals_drop]
  · rfl
theorem cut_zero (w : World) (r : Nat) (l : Nd 0) (F : List Nat) (k : Key) (h : At 0 w r l F) (ha : CutAble 0 l) : Calls Try.prog 25 #[ptr r, .string k] w (CutPost 0 w r l F k) := by
  refine (cut_leaf w r (keys l) (vals l) F k h ha.1 (by rw [keys_length, vals_length]) (by rw [keys_length]; have := ha.2; omega)).mono ?_
  rintro e w' ⟨F', rfl, h1, h2, h3⟩
  rw [cutLeaf_del] at h1
  exact ⟨F', rfl, h1, h2, h3⟩

theorem join_any (d : Nat) (w : World) (r : Nat) (ks : List Key) (rs : List Nat) (cs : List (Nd d)) (F0 : List Nat) (Fs : List (List Nat)) (i : Nat) (h : Inr d w r ks rs rs cs F0 Fs) (hk : ks.length = cs.length) (hi : i < cs.length) (h90 : cs.length ≤ 90) (h40 : ∀ c ∈ cs, c.length ≤ 40) :
    Calls Try.prog 36 #[ptr r, .int .i64 i] w (JoinPost d w r cs i (F0 ++ Fs.flatten)) := by
  by_cases hc : 2 ≤ (at' cs i).length ∨ cs.length < 2
  · exact join_rest d w r ks rs cs F0 Fs i h hk hi h90 hc
  · exact join_do d w r ks rs cs F0 Fs i h hk hi h90 hc h40

/-- Keys, of which the first are made anew. -/
structure Keyed {d : Nat} (w0 w : World) (r : Nat) (ks : List Key) (rs : List Nat) (cs : List (Nd d)) (F0 : List Nat) (Fs : List (List Nat)) (cv : Value) (j : Nat) : Prop where
  inr : Inr d w r ks rs rs cs F0 Fs
  len : ks.length = cs.length
  le : j ≤ cs.length
  done : ∀ t, t < j → ks[t]? = (cs.map fk)[t]?
  only : Only (fun b => b ∈ F0) w0 w
  kids : w.cell? ⟨r, 2, none⟩ = some cv

/-- One more key: what it wants, what it leaves. -/
theorem Keyed.step {d : Nat} {w0 w : World} {r g3 o3 m p3 : Nat} {ks : List Key} {rs : List Nat} {cs : List (Nd d)} {F0 : List Nat} {Fs : List (List Nat)} {j : Nat} (h : Keyed w0 w r ks rs cs F0 Fs (.slice (some ⟨g3, o3, none⟩) m p3) j) (hj : j < cs.length) (hp : ∀ c ∈ cs, 0 < c.length) :
    ∃ q g o c gl ol nl pl kf kold, w.cell? ⟨g3, o3 + j, none⟩ = some (.pointer (some ⟨q, 0, none⟩)) ∧ w.cell? ⟨r, 0, none⟩ = some (.slice (some ⟨g, o, none⟩) cs.length c) ∧ w.cell? ⟨q, 0, none⟩ = some (.slice (some ⟨gl, ol, none⟩) nl pl) ∧ 0 < nl ∧ w.cell? ⟨gl, ol, none⟩ = some (.string kf) ∧
      w.cell? ⟨g, o + j, none⟩ = some (.string kold) ∧ w.frozen? ⟨g, o + j, none⟩ = false ∧ Keyed w0 (w.setCell ⟨g, o + j, none⟩ (.string kf)) r (ks.set j kf) rs cs F0 Fs (.slice (some ⟨g3, o3, none⟩) m p3) (j + 1) := by
  have hlen := h.inr.kids.lenR
  have hk := h.len
  obtain ⟨ra, q, rb, Fa, f, Fb, _, _, _, _, hq, _, hrq⟩ := h.inr.child j hj
  obtain ⟨g2, o2, c2, k0, k1⟩ := h.inr.raw.kids (by omega)
  have e := h.kids
  rw [k0] at e
  injection e with e
  injection e with e1 e2 e3
  injection e1 with e1
  injection e1 with e1 e4
  subst e1 e4
  obtain ⟨g, o, c, x0, xg, x1, x2⟩ := h.inr.raw.keysAt (by omega)
  obtain ⟨gl, ol, nl, pl, l0, ln, l1, _, _⟩ := hq.least (hp _ (at_mem hj))
  obtain ⟨kold, hko⟩ : ∃ a, ks[j]? = some a := ⟨_, List.getElem?_eq_getElem (by omega)⟩
  have hgr : g ≠ r := by
    obtain ⟨kv, vv, cv, hn, hF, hd, _⟩ := h.inr.raw
    have hA := foot_nodup.1 (hF ▸ hd)
    have hx := hn.cells.cell 0
    simp only [List.getElem?_cons_zero] at hx
    rw [x0] at hx
    injection hx with hx
    exact hA.rk g (hx ▸ rfl)
  refine ⟨q, g, o, c, gl, ol, nl, pl, _, kold, k1 j q hrq, by rw [← hk]; exact x0, l0, ln, l1, (x1 j kold hko).1, (x1 j kold hko).2, ?_, by simpa using hk, hj, fun t ht => ?_, h.only.setCell (p := ⟨g, o + j, none⟩) (.inl xg) _, ?_⟩
  · exact h.inr.rawTurn (x2 j _ (by omega)) (Raw.setKey_only w xg _ _) fun b hb => .inl hb
  · by_cases htj : t = j
    · subst htj
      rw [List.getElem?_set_self (by omega), List.getElem?_map]
      unfold at'
      rw [List.getElem?_eq_getElem hj]
      rfl
    · rw [List.getElem?_set_ne (Ne.symm htj)]
      exact h.done t (by omega)
  · rw [← h.kids]
    exact (setCell_only w ⟨g, o + j, none⟩ (.string _)).cell (p := ⟨r, 2, none⟩) (World.block_lt_of_cell? _ _ h.kids) (Ne.symm hgr)

theorem Keyed.all {d : Nat} {w0 w : World} {r : Nat} {ks : List Key} {rs : List Nat} {cs : List (Nd d)} {F0 : List Nat} {Fs : List (List Nat)} {cv : Value} (h : Keyed w0 w r ks rs cs F0 Fs cv cs.length) : At (d + 1) w r (reKey cs) (F0 ++ Fs.flatten) := by
  apply Inr.at
  rw [keys_reKey, subs_reKey]
  have e : ks = cs.map fk := by
    apply List.ext_getElem?
    intro t
    rcases Nat.lt_or_ge t cs.length with ht | ht
    · exact h.done t ht
    · rw [List.getElem?_eq_none (by rw [h.len]; exact ht), List.getElem?_eq_none (by simpa using ht)]
  rw [← e]
  exact h.inr
end Go.Proofs.Ytjmkfppnimengaa
