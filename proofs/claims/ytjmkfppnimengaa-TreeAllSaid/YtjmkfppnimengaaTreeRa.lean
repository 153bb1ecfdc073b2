/- What the laws want of a tree's shape, of all its keys, of keys that are there. Conditions: a tree in memory. -/
import Derived.Test.YtjmkfppnimengaaTreeSd
import Derived.Laws.BytesArg
namespace Go.Proofs.Ytjmkfppnimengaa
open Go.RowKit Go.Wh

theorem rows_le : ∀ (e : Nat) (us : List (Nd e)), (∀ u ∈ us, Fit e u ∧ 2 ≤ u.length) → ∀ s ∈ shp e us, s.length ≤ (flatC us).length := by
  have h0 : ∀ (e : Nat) (us : List (Nd e)), (∀ u ∈ us, Fit e u ∧ 2 ≤ u.length) → us.length ≤ (flatC us).length := fun e us => by
    induction us with
    | nil => intro _; exact Nat.le_refl _
    | cons u us ih =>
      intro h
      have h1 := ih fun v hv => h v (by simp [hv])
      have h2 := h u (by simp)
      have h3 := len_le_flat e u h2.1
      rw [flatC_cons, List.length_append, List.length_cons]
      omega
  intro e
  induction e with
  | zero =>
    intro us h s hs
    have hs' : s = us.map List.length := by simpa [shp] using hs
    rw [hs', List.length_map]
    exact h0 0 us h
  | succ e ih =>
    intro us h s hs
    rcases List.mem_cons.1 hs with hs | hs
    · rw [hs, List.length_map]
      exact h0 (e + 1) us h
    · have := ih (us.flatMap subs) (fun c hc => by
        obtain ⟨u, hu, hcu⟩ := List.mem_flatMap.1 hc
        obtain ⟨x, hx, rfl⟩ := subs_mem hcu
        have := (h u hu).1 x hx
        exact ⟨this.2.2.2, this.1⟩) s hs
      rwa [flatC_down] at this

/-- A shape that is told is sound, and so deep. -/
theorem told_shape {w w' : World} {l : Nd 0} {e : Ending} (h : TShape w l e w') (hl : l.length ≤ 80000) :
    ∃ a c dp, e = .returned (.slice a dp c) ∧ 1 ≤ dp ∧ dp ≤ l.length + 1 ∧ l.length ≤ 4 ^ dp ∧ (2 ≤ dp → 2 ^ dp ≤ l.length) ∧ Still w w' ∧ (∀ g, (Value.slice a dp c).ownBlock = some g → w.heap.size ≤ g ∧ g < w'.heap.size) ∧
      ∀ w2 n, Still w' w2 → n = l.length → Calls Try.prog 19 #[.slice a dp c, .int .i64 (n : Int)] w2 (fun e w' => e = .returned (.bool true) ∧ w' = w2) := by
  obtain ⟨out, ps, d, x, rfl, h1, h2, h3, h4, h5, h6, rfl⟩ := h
  have hlen := shp_length d [x]
  obtain ⟨a, c, rfl⟩ := h1.form'
  have hdep := good_depth h6
  have hm := flat_most d x h6.fit
  have h4' : x.length * 4 ^ d ≤ 4 * 4 ^ d := Nat.mul_le_mul_right _ h6.four
  have hrl : ∀ s ∈ shp d [x], s.length ≤ 100000 := by
    rcases h6.two with h0 | h0
    · subst h0
      intro s hs
      have hs' : s = [x.length] := by simpa [shp] using hs
      rw [hs']
      simp
    · intro s hs
      have := rows_le d [x] (fun u hu => by simp at hu; subst hu; exact ⟨h6.fit, h0⟩) s hs
      rw [flatC_one] at this
      omega
  refine ⟨a, c, (shp d [x]).length, rfl, by omega, by omega, ?_, fun hd => ?_, h5, h3, fun w2 n hs hn => ?_⟩
  · rw [hlen, Nat.pow_succ]
    omega
  · rw [hlen] at hd ⊢
    have hle := flat_least d x h6.fit
    have h7 : 2 * 2 ^ d ≤ x.length * 2 ^ d := Nat.mul_le_mul_right _ (by have := h6.two; omega)
    rw [Nat.pow_succ]
    omega
  · subst hn
    exact sound_any w2 _ _ ps _ w.heap.size _ (sound_good h6) (h1.only hs fun _ _ e => e) (h2.only hs fun _ _ e => e) (by omega) hrl

/-- No key is less than the empty one. -/
theorem bl_empty (a : Key) : bl a ⟨#[]⟩ = false := by
  cases h : bl a ⟨#[]⟩ with
  | false => rfl
  | true =>
    have h1 := (bl_iff a ⟨#[]⟩).1 h
    have h2 : (⟨#[]⟩ : Key).toList = [] := by rw [ByteArray.toList_eq]
    rw [h2] at h1
    exact absurd h1 (List.not_lt_nil _)
theorem pos_empty (l : List Key) : pos l ⟨#[]⟩ = 0 := by
  unfold pos
  rw [takeWhile_none fun b _ => bl_empty b]
  rfl
theorem gather_all (most : Int) (hm : most < 0) : ∀ (l a : Nd 0), gather most a l = (a ++ l, true)
  | [], a => by simp [gather]
  | e :: l, a => by
    have hf : full most a = false := by simp [full]; omega
    rw [gather_cons, hf]
    simp only [Bool.false_eq_true, if_false]
    rw [gather_all most hm l]
    simp
theorem fromL_all (l : Nd 0) (most : Int) (hm : most < 0) : fromL l ⟨#[]⟩ most = l := by
  unfold fromL
  rw [pos_empty, gather_all most hm]
  rfl

/-- A key that is there. -/
theorem pos_at {l : List Key} (hs : KS l) {j : Nat} {k : Key} (h : l[j]? = some k) : pos l k = j := by
  have h1 : ¬ j < pos l k := fun hlt => by
    have := (pos_lt hs k h).2 hlt
    rw [bl_irrefl] at this
    cases this
  rcases Nat.eq_zero_or_pos j with h0 | h0
  · omega
  · have hj := (List.getElem?_eq_some_iff.1 h).1
    have h2 : l[j - 1]? = some l[j - 1] := List.getElem?_eq_getElem (by omega)
    have h3 : bl l[j - 1] k = true := by
      have := (List.pairwise_iff_getElem.1 hs) (j - 1) j (by omega) hj (by omega)
      rwa [(List.getElem?_eq_some_iff.1 h).2] at this
    have := (pos_lt hs k h2).1 h3
    omega
theorem hasK_at {l : List Key} (hs : KS l) {j : Nat} {k : Key} (h : l[j]? = some k) : hasK l k = true := by
  unfold hasK
  rw [pos_at hs h, h]
  simp

theorem Own.count {w0 w : World} {A : Nat → Prop} {t : Nat} {l : Nd 0} (h : Own w0 A w t l) : w.cell? ⟨t, 1, none⟩ = some (.int .i64 l.length) := by
  obtain ⟨F, ⟨d, r, x, G, hc, _⟩, _⟩ := h
  exact hc.cell 1
/-- How many there are, by the memory. -/
def cntOf (w : World) (t : Nat) : Nat := match w.cell? ⟨t, 1, none⟩ with
  | some (.int _ n) => n.toNat
  | _ => 0
theorem Own.cnt {w0 w : World} {A : Nat → Prop} {t : Nat} {l : Nd 0} (h : Own w0 A w t l) : cntOf w t = l.length := by
  unfold cntOf
  rw [h.count]
  simp

/-- A text of one byte, of two. -/
theorem conv1 (w : World) (x : Int) : (convert 47 9 (.slice (some ⟨w.heap.size, 0, none⟩) 1 1)).run Try.prog (w.alloc (.cells #[.int .u8 x] 5)) = .ok (.string (strOfNums [x])) (w.alloc (.cells #[.int .u8 x] 5)) :=
  run_convert_bytes_arg _ 47 5 Try.underlying47 Try.underlying5 _ 0 1 1 [x] rfl (fun i hi => by
    have h := (cellsAt_new w [.int .u8 x] 5).cell i
    rw [Nat.zero_add]
    rw [h]
    have : i = 0 := by omega
    subst this
    rfl) 9 Try.underlying9
theorem conv2 (w : World) (x y : Int) : (convert 47 9 (.slice (some ⟨w.heap.size, 0, none⟩) 2 2)).run Try.prog (w.alloc (.cells #[.int .u8 x, .int .u8 y] 5)) = .ok (.string (strOfNums [x, y])) (w.alloc (.cells #[.int .u8 x, .int .u8 y] 5)) :=
  run_convert_bytes_arg _ 47 5 Try.underlying47 Try.underlying5 _ 0 2 2 [x, y] rfl (fun i hi => by
    have h := (cellsAt_new w [.int .u8 x, .int .u8 y] 5).cell i
    rw [Nat.zero_add]
    rw [h]
    have : i = 0 ∨ i = 1 := by omega
    rcases this with rfl | rfl <;> rfl) 9 Try.underlying9
end Go.Proofs.Ytjmkfppnimengaa
