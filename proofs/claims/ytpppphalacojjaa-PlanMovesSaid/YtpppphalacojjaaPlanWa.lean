/- The library's stable sort of twenty and more: sorted blocks, and what the calls leave of them. Conditions: a slice that may be written. -/
import Derived.Test.YtpppphalacojjaaPlanZ
namespace Go.Proofs.Ytpppphalacojjaa
open Go.RowKit Go.Wh

/-- Sorted blocks of one length. -/
def Blocks (s : Nat) (bs : List (List Spot)) : Prop := ∀ b ∈ bs, b.length = s ∧ Sorted b
theorem Blocks.nil (s : Nat) : Blocks s [] := fun _ h => by cases h
theorem Blocks.snoc {s : Nat} {bs : List (List Spot)} (h : Blocks s bs) {b : List Spot} (hb : b.length = s) (hs : Sorted b) : Blocks s (bs ++ [b]) := fun x hx => by
  rcases List.mem_append.1 hx with hx | hx
  · exact h x hx
  · rw [List.mem_singleton.1 hx]
    exact ⟨hb, hs⟩
theorem Blocks.head {s : Nat} {bs : List (List Spot)} {b : List Spot} (h : Blocks s (b :: bs)) : b.length = s ∧ Sorted b := h b (by simp)
theorem Blocks.tail {s : Nat} {bs : List (List Spot)} {b : List Spot} (h : Blocks s (b :: bs)) : Blocks s bs := fun x hx => h x (by simp [hx])

/-- The row as it stands. -/
structure St (w : World) (g o n cap : Nat) (l L : List Spot) (wr : World) : Prop where
  perm : L.Perm l
  vec : VecAt wr 3 g o n cap (flat L)
  only : Only (fun k => k = g) w wr

theorem St.len {w : World} {g o n cap : Nat} {l L : List Spot} {wr : World} (h : St w g o n cap l L wr) : L.length = n := by
  have := h.vec.len
  rw [flat_length] at this
  omega

/-- A piece of the row is laid in another order. -/
theorem St.turn {w : World} {g o n cap : Nat} {l A M C : List Spot} {wr : World} (h : St w g o n cap l (A ++ M ++ C) wr) {M' : List Spot} {w' : World} (hp : M'.Perm M) (hv : VecAt w' 3 g o n cap (flat (A ++ M' ++ C))) (ho : Only (fun k => k = g) wr w') : St w g o n cap l (A ++ M' ++ C) w' :=
  ⟨(List.Perm.append_right C (List.Perm.append_left A hp)).trans h.perm, hv, h.only.trans ho⟩

/-- insertionSort of a piece. -/
theorem St.isort {w : World} {g o n cap : Nat} {l A M C : List Spot} {wr : World} (h : St w g o n cap l (A ++ M ++ C) wr) (hm : 0 < M.length) (hn : n ≤ 10000) (a b : Nat) (ha : a = A.length) (hb : b = a + M.length) :
    Calls Try.prog 21 #[.slice (some ⟨g, o, none⟩) n cap, .int .i64 a, .int .i64 b, .func (.func 17) #[] #[]] wr
      (fun e w' => e = .returned (.tuple #[]) ∧ ∃ M', M'.length = M.length ∧ Sorted M' ∧ St w g o n cap l (A ++ M' ++ C) w') := by
  cases M with
  | nil => simp at hm
  | cons m0 M =>
    have c := isort_any g o n cap A m0 M C wr h.vec hn
    subst ha
    rw [← hb] at c
    refine c.mono ?_
    rintro e w' ⟨rfl, M', hp, hs, hv, ho⟩
    refine ⟨rfl, M', hp.length_eq, hs, ?_⟩
    have hv' : VecAt w' 3 g o n cap (flat (A ++ M' ++ C)) := by
      rcases hv with ⟨hv, _⟩ | ⟨g', o', cap', hv, hva⟩
      · cases hv
      · injection hv with h1 h2 h3
        injection h1 with h1
        injection h1 with h1 h4 h5
        subst h1 h4 h3
        exact hva
    exact h.turn hp hv' (ho.mono fun k hk => by
      have : g = k := Option.some.inj hk
      exact this.symm)

set_option maxRecDepth 100000 in
set_option maxHeartbeats 400000 in
theorem isort_empty (v : Value) (a : Nat) (w : World) (ha : a ≤ 20000) :
    Calls Try.prog 21 #[v, .int .i64 a, .int .i64 a, .func (.func 17) #[] #[]] w (fun e w' => e = .returned (.tuple #[]) ∧ w = w') := by
  go_enter Try.func21, Try.ntmps21
  go_wp2_with fail
  go_loop [8] (fun s => s = .int .i64 ((a : Int) + 1)) (fun _ => 0)
  case atStart => exact rfl
  case round =>
    obtain rfl := hrel
    go_wp2_with fail
    go_end0
    exact ⟨rfl, rfl⟩

/-- insertionSort of what is left, were it nothing. -/
theorem St.isortAny {w : World} {g o n cap : Nat} {l A M : List Spot} {wr : World} (h : St w g o n cap l (A ++ M) wr) (hn : n ≤ 10000) (a : Nat) (ha : a = A.length) :
    Calls Try.prog 21 #[.slice (some ⟨g, o, none⟩) n cap, .int .i64 a, .int .i64 n, .func (.func 17) #[] #[]] wr
      (fun e w' => e = .returned (.tuple #[]) ∧ ∃ M', M'.length = M.length ∧ Sorted M' ∧ St w g o n cap l (A ++ M') w') := by
  have hl := h.len
  rw [List.length_append] at hl
  rcases Nat.eq_zero_or_pos M.length with hz | hz
  · have hM := List.length_eq_zero_iff.1 hz
    subst hM
    have : n = a := by simp at hl; omega
    subst this
    refine (isort_empty _ n wr (by omega)).mono ?_
    rintro e w' ⟨rfl, rfl⟩
    exact ⟨rfl, [], rfl, by simp [Sorted], h⟩
  · have h' : St w g o n cap l (A ++ M ++ []) wr := by rw [List.append_nil]; exact h
    refine (h'.isort hz hn a n ha (by omega)).mono ?_
    rintro e w' ⟨rfl, M', hm, hs, hst⟩
    rw [List.append_nil] at hst
    exact ⟨rfl, M', hm, hs, hst⟩

/-- symMerge of two sorted pieces. -/
theorem St.merge {w : World} {g o n cap : Nat} {l A X Y C : List Spot} {wr : World} (h : St w g o n cap l (A ++ (X ++ Y) ++ C) wr) (hX : Sorted X) (hY : Sorted Y) (hx : 0 < X.length) (hy : 0 < Y.length) (hn : n ≤ 10000) (a m b : Nat) (ha : a = A.length) (hm : m = a + X.length) (hb : b = m + Y.length) :
    Calls Try.prog 22 #[.slice (some ⟨g, o, none⟩) n cap, .int .i64 a, .int .i64 m, .int .i64 b, .func (.func 17) #[] #[]] wr
      (fun e w' => e = .returned (.tuple #[]) ∧ ∃ M', M'.length = X.length + Y.length ∧ Sorted M' ∧ St w g o n cap l (A ++ M' ++ C) w') := by
  refine (merge_any _ g o n cap A X Y C wr h.vec hX hY hx hy hn (Nat.lt_succ_self _) a m b ha hm hb).mono ?_
  rintro e w' ⟨rfl, M', hp, hs, hv, ho⟩
  exact ⟨rfl, M', by rw [hp.length_eq, List.length_append], hs, h.turn hp hv ho⟩

/-- While blocks of s are sorted. -/
structure Srt1 (w : World) (g o n cap : Nat) (l : List Spot) (a : Nat) (wr : World) : Prop where
  ex : ∃ bs Q, Blocks 20 bs ∧ a = bs.flatten.length ∧ St w g o n cap l (bs.flatten ++ Q) wr

theorem Srt1.le {w : World} {g o n cap : Nat} {l : List Spot} {a : Nat} {wr : World} (h : Srt1 w g o n cap l a wr) : a ≤ n := by
  obtain ⟨bs, Q, hb, ha, hs⟩ := h.ex
  have := hs.len
  rw [List.length_append] at this
  omega

theorem Srt1.step {w : World} {g o n cap : Nat} {l : List Spot} {a : Nat} {wr : World} (h : Srt1 w g o n cap l a wr) (hn : n ≤ 10000) (b : Nat) (hb : b = a + 20) (hbn : b ≤ n) :
    Calls Try.prog 21 #[.slice (some ⟨g, o, none⟩) n cap, .int .i64 a, .int .i64 b, .func (.func 17) #[] #[]] wr
      (fun e w' => e = .returned (.tuple #[]) ∧ Srt1 w g o n cap l b w') := by
  obtain ⟨bs, Q, hbs, ha, hs⟩ := h.ex
  have hl := hs.len
  rw [List.length_append] at hl
  have e1 : bs.flatten ++ Q = bs.flatten ++ Q.take 20 ++ Q.drop 20 := by rw [List.append_assoc, List.take_append_drop]
  rw [e1] at hs
  have ht : (Q.take 20).length = 20 := by simp; omega
  refine (hs.isort (by omega) hn a b ha (by omega)).mono ?_
  rintro e w' ⟨rfl, M', hm, hsm, hst⟩
  have e2 : (bs ++ [M']).flatten = bs.flatten ++ M' := by simp
  refine ⟨rfl, ⟨bs ++ [M'], Q.drop 20, hbs.snoc (by omega) hsm, ?_, ?_⟩⟩
  · rw [e2, List.length_append]
    omega
  · rw [e2]
    exact hst

/-- Blocks of s, and a rest that is less. -/
structure Srt2 (w : World) (g o n cap : Nat) (l : List Spot) (s : Nat) (wr : World) : Prop where
  ex : ∃ bs R, Blocks s bs ∧ Sorted R ∧ R.length < s ∧ St w g o n cap l (bs.flatten ++ R) wr

theorem Srt1.last {w : World} {g o n cap : Nat} {l : List Spot} {a : Nat} {wr : World} (h : Srt1 w g o n cap l a wr) (hn : n ≤ 10000) (hbn : ¬ a + 20 ≤ n) :
    Calls Try.prog 21 #[.slice (some ⟨g, o, none⟩) n cap, .int .i64 a, .int .i64 n, .func (.func 17) #[] #[]] wr
      (fun e w' => e = .returned (.tuple #[]) ∧ Srt2 w g o n cap l 20 w') := by
  obtain ⟨bs, Q, hbs, ha, hs⟩ := h.ex
  have hl := hs.len
  rw [List.length_append] at hl
  refine (hs.isortAny hn a ha).mono ?_
  rintro e w' ⟨rfl, M', hm, hsm, hst⟩
  exact ⟨rfl, ⟨bs, M', hbs, hsm, by omega, hst⟩⟩

/-- While blocks are merged. -/
structure Srt3 (w : World) (g o n cap : Nat) (l : List Spot) (s a : Nat) (wr : World) : Prop where
  ex : ∃ bs rs R, Blocks (2 * s) bs ∧ Blocks s rs ∧ Sorted R ∧ R.length < s ∧ a = bs.flatten.length ∧ St w g o n cap l (bs.flatten ++ (rs.flatten ++ R)) wr

theorem Srt2.begin_ {w : World} {g o n cap : Nat} {l : List Spot} {s : Nat} {wr : World} (h : Srt2 w g o n cap l s wr) : Srt3 w g o n cap l s 0 wr := by
  obtain ⟨bs, R, h1, h2, h3, h4⟩ := h.ex
  exact ⟨[], bs, R, Blocks.nil _, h1, h2, h3, rfl, h4⟩

theorem Srt3.le {w : World} {g o n cap : Nat} {l : List Spot} {s a : Nat} {wr : World} (h : Srt3 w g o n cap l s a wr) : a ≤ n := by
  obtain ⟨bs, rs, R, h1, h2, h3, h4, ha, hs⟩ := h.ex
  have := hs.len
  rw [List.length_append] at this
  omega

theorem Srt3.step {w : World} {g o n cap : Nat} {l : List Spot} {s a : Nat} {wr : World} (h : Srt3 w g o n cap l s a wr) (hn : n ≤ 10000) (hs0 : 0 < s) (m b : Nat) (hm : m = a + s) (hb : b = a + 2 * s) (hbn : b ≤ n) :
    Calls Try.prog 22 #[.slice (some ⟨g, o, none⟩) n cap, .int .i64 a, .int .i64 m, .int .i64 b, .func (.func 17) #[] #[]] wr
      (fun e w' => e = .returned (.tuple #[]) ∧ Srt3 w g o n cap l s b w') := by
  obtain ⟨bs, rs, R, h1, h2, h3, h4, ha, hs⟩ := h.ex
  have hl := hs.len
  rw [List.length_append, List.length_append] at hl
  match rs, h2, hs, hl with
  | [], _, _, hl => simp only [List.flatten_nil, List.length_nil] at hl; omega
  | [X], h2, _, hl =>
    have := h2.head.1
    simp only [List.flatten_cons, List.flatten_nil, List.append_nil] at hl
    omega
  | X :: Y :: rs, h2, hs, hl =>
    obtain ⟨x1, x2⟩ := h2.head
    obtain ⟨y1, y2⟩ := h2.tail.head
    have e1 : bs.flatten ++ ((X :: Y :: rs).flatten ++ R) = bs.flatten ++ (X ++ Y) ++ (rs.flatten ++ R) := by simp
    rw [e1] at hs
    refine (hs.merge x2 y2 (by omega) (by omega) hn a m b ha (by omega) (by omega)).mono ?_
    rintro e w' ⟨rfl, M', hm', hsm, hst⟩
    have e2 : (bs ++ [M']).flatten = bs.flatten ++ M' := by simp
    refine ⟨rfl, ⟨bs ++ [M'], rs, R, h1.snoc (by omega) hsm, h2.tail.tail, h3, h4, ?_, ?_⟩⟩
    · rw [e2, List.length_append]
      omega
    · rw [e2]
      exact hst

theorem Srt3.lastMerge {w : World} {g o n cap : Nat} {l : List Spot} {s a : Nat} {wr : World} (h : Srt3 w g o n cap l s a wr) (hn : n ≤ 10000) (hs0 : 0 < s) (m : Nat) (hm : m = a + s) (hbn : ¬ a + 2 * s ≤ n) (hmn : m < n) :
    Calls Try.prog 22 #[.slice (some ⟨g, o, none⟩) n cap, .int .i64 a, .int .i64 m, .int .i64 n, .func (.func 17) #[] #[]] wr
      (fun e w' => e = .returned (.tuple #[]) ∧ Srt2 w g o n cap l (2 * s) w') := by
  obtain ⟨bs, rs, R, h1, h2, h3, h4, ha, hs⟩ := h.ex
  have hl := hs.len
  rw [List.length_append, List.length_append] at hl
  match rs, h2, hs, hl with
  | [], _, _, hl => simp only [List.flatten_nil, List.length_nil] at hl; omega
  | [X], h2, hs, hl =>
    obtain ⟨x1, x2⟩ := h2.head
    have e1 : bs.flatten ++ ([X].flatten ++ R) = bs.flatten ++ (X ++ R) ++ [] := by simp
    rw [e1] at hs
    simp only [List.flatten_cons, List.flatten_nil, List.append_nil] at hl
    refine (hs.merge x2 h3 (by omega) (by omega) hn a m n ha (by omega) (by omega)).mono ?_
    rintro e w' ⟨rfl, M', hm', hsm, hst⟩
    rw [List.append_nil] at hst
    exact ⟨rfl, ⟨bs, M', h1, hsm, by omega, hst⟩⟩
  | X :: Y :: rs, h2, hs, hl =>
    have x1 := h2.head.1
    have y1 := h2.tail.head.1
    simp only [List.flatten_cons, List.length_append] at hl
    omega

theorem Srt3.noMerge {w : World} {g o n cap : Nat} {l : List Spot} {s a : Nat} {wr : World} (h : Srt3 w g o n cap l s a wr) (hs0 : 0 < s) (hbn : ¬ a + 2 * s ≤ n) (hmn : ¬ a + s < n) : Srt2 w g o n cap l (2 * s) wr := by
  obtain ⟨bs, rs, R, h1, h2, h3, h4, ha, hs⟩ := h.ex
  have hl := hs.len
  rw [List.length_append, List.length_append] at hl
  match rs, h2, hs, hl with
  | [], _, hs, hl => exact ⟨⟨bs, R, h1, h3, by omega, by simpa using hs⟩⟩
  | [X], h2, hs, hl =>
    obtain ⟨x1, x2⟩ := h2.head
    simp only [List.flatten_cons, List.flatten_nil, List.append_nil] at hl
    have hR : R = [] := List.eq_nil_of_length_eq_zero (by omega)
    subst hR
    exact ⟨⟨bs, X, h1, x2, by omega, by simpa using hs⟩⟩
  | X :: Y :: rs, h2, hs, hl =>
    have x1 := h2.head.1
    have y1 := h2.tail.head.1
    simp only [List.flatten_cons, List.length_append] at hl
    omega

theorem Srt2.done {w : World} {g o n cap : Nat} {l : List Spot} {s : Nat} {wr : World} (h : Srt2 w g o n cap l s wr) (hsn : ¬ s < n) : SortPost w (.slice (some ⟨g, o, none⟩) n cap) n [] l [] (.returned (.tuple #[])) wr := by
  obtain ⟨bs, R, h1, h3, h4, hs⟩ := h.ex
  have hl := hs.len
  rw [List.length_append] at hl
  have key : Sorted (bs.flatten ++ R) := by
    match bs, h1, hl with
    | [], _, hl => simpa using h3
    | [X], h1, hl =>
      obtain ⟨x1, x2⟩ := h1.head
      simp only [List.flatten_cons, List.flatten_nil, List.append_nil] at hl
      have hR : R = [] := List.eq_nil_of_length_eq_zero (by omega)
      subst hR
      simpa using x2
    | X :: Y :: rs, h1, hl =>
      have x1 := h1.head.1
      have y1 := h1.tail.head.1
      simp only [List.flatten_cons, List.length_append] at hl
      omega
  refine ⟨rfl, bs.flatten ++ R, hs.perm, key, .inr ⟨g, o, cap, rfl, by simpa using hs.vec⟩, hs.only.mono fun k hk => by rw [hk]; rfl⟩
end Go.Proofs.Ytpppphalacojjaa
