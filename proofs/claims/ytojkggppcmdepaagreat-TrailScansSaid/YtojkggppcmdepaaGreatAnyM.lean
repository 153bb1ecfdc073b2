/- A region that draws its order, some of whose operations may come in many orders: what they leave is told by one relation, and each is looked at once. No conditions. -/
import Derived.Test.YtojkggppcmdepaaGreatAnyD
namespace Go.Wh

/-- One more. -/
def upN {α : Type} (f : Nat → α) (i : Nat) (v : α) : Nat → α := fun j => if j = i then v else f j
/-- The slots of some operations (their numbers, their slots) filled. -/
def fillA (B : List (Nat × Nat)) (xs : Nat → Value) (a : Act) : Act := B.foldl (fun a p => a.put (some p.2) (xs p.1)) a
def lst (listed : Array Bool) : Nat → Bool := fun j => listed.getD j false

theorem put_put (a : Act) (t : Nat) (u v : Value) : (a.put (some t) u).put (some t) v = a.put (some t) v := by
  simp [Act.put]

theorem fillA_cons (p : Nat × Nat) (B : List (Nat × Nat)) (xs : Nat → Value) (a : Act) : fillA (p :: B) xs a = fillA B xs (a.put (some p.2) (xs p.1)) := rfl

theorem fillA_comm {t : Nat} : ∀ {B : List (Nat × Nat)} (xs : Nat → Value) (a : Act) (v : Value), (∀ p ∈ B, p.2 ≠ t) → (fillA B xs a).put (some t) v = fillA B xs (a.put (some t) v)
  | [], _, _, _, _ => rfl
  | p :: B, xs, a, v, h => by
    rw [fillA_cons, fillA_cons, fillA_comm xs _ v (fun q hq => h q (by simp [hq])), Act.put_comm a (x := some p.2) (y := some t) (xs p.1) v (fun d hd e => h p (by simp) (by cases hd; cases e; rfl))]

theorem fillA_congr : ∀ {B : List (Nat × Nat)} {xs ys : Nat → Value} (a : Act), (∀ p ∈ B, xs p.1 = ys p.1) → fillA B xs a = fillA B ys a
  | [], _, _, _, _ => rfl
  | p :: B, xs, ys, a, h => by
    rw [fillA_cons, fillA_cons, h p (by simp)]
    exact fillA_congr _ fun q hq => h q (by simp [hq])

/-- Numbers and slots are all unlike. -/
def apartB : List (Nat × Nat) → Bool
  | [] => true
  | p :: B => B.all (fun q => q.1 != p.1 && q.2 != p.2) && apartB B

theorem fillA_put {i t : Nat} : ∀ {B : List (Nat × Nat)} (xs : Nat → Value) (a : Act) (v : Value), apartB B = true → (i, t) ∈ B → (fillA B xs a).put (some t) v = fillA B (upN xs i v) a
  | [], _, _, _, _, h => by cases h
  | p :: B, xs, a, v, hn, h => by
    simp only [apartB, Bool.and_eq_true, List.all_eq_true, bne_iff_ne] at hn
    rcases List.mem_cons.1 h with rfl | h
    · rw [fillA_cons, fillA_cons, fillA_comm xs _ v (fun q hq => (hn.1 q hq).2), put_put]
      have e : upN xs i v i = v := by simp [upN]
      rw [e]
      exact fillA_congr _ fun q hq => by simp [upN, (hn.1 q hq).1]
    · rw [fillA_cons, fillA_cons, fillA_put xs _ v hn.2 h]
      have e : upN xs i v p.1 = xs p.1 := by
        have := (hn.1 _ h).1
        simp only at this
        simp [upN, Ne.symm this]
      rw [e]

theorem put_same {a : Act} {t : Nat} : a.put (some t) (a.tmps.getD t undef) = a := by
  cases a with
  | mk tmps defers =>
    simp only [Act.put, Act.mk.injEq, and_true]
    apply Array.ext (by simp)
    intro j h1 h2
    rw [Array.getElem_setIfInBounds]
    split
    · subst_vars
      rw [Array.getD_eq_getD_getElem?, Array.getElem?_eq_getElem h2]
      rfl
    · rfl

theorem fillA_same (a : Act) : ∀ (B : List (Nat × Nat)) {xs : Nat → Value}, (∀ p ∈ B, xs p.1 = a.tmps.getD p.2 undef) → fillA B xs a = a
  | [], _, _ => rfl
  | p :: B, xs, h => by
    rw [fillA_cons, h p (by simp), put_same]
    exact fillA_same a B fun q hq => h q (by simp [hq])

/-- In whatever order: only these come, each behind what it asks for, and then they are all listed. -/
def okM (md : Region.Mode) (ops : Array Oper) (B : List Nat) (dep : Nat → List Nat) (fin : Array Bool) : Nat → Array Bool → Bool
  | 0, listed => listed == fin
  | f + 1, listed => !(Region.ready md ops listed).isEmpty && (Region.ready md ops listed).all fun i => B.contains i && (dep i).all (fun j => listed.getD j false) && okM md ops B dep fin f (listed.setIfInBounds i true)

section
variable {P : Program} {ops : Array Oper} {Q : Exit → Act → World → Prop} {md : Region.Mode} {S : World → Prop} {D : Nat → Bool}

theorem lst_set {listed : Array Bool} {i : Nat} (h : listed.getD i true = false) : lst (listed.setIfInBounds i true) = upN (lst listed) i true := by
  funext j
  unfold lst upN
  have hi : i < listed.size := by
    rcases Nat.lt_or_ge i listed.size with h' | h'
    · exact h'
    · simp [Array.getElem?_eq_none h'] at h
  by_cases hj : j = i
  · subst hj
    simp [hi]
  · rw [if_neg hj]
    simp [Array.getElem?_setIfInBounds_ne (Ne.symm hj)]

/-- What is shown of one operation. -/
def StepM (P : Program) (ops : Array Oper) (Q : Exit → Act → World → Prop) (J : (Nat → Bool) → (Nat → Value) → World → Prop) (B : List (Nat × Nat)) (dep : Nat → List Nat) (a : Act) (i t : Nat) : Prop :=
  ∀ (L : Nat → Bool) (xs : Nat → Value) (w : World), (∀ j ∈ dep i, L j = true) → L i = false → J L xs w → wpOp P ops Q i (fun a' w' => ∃ v, a' = (fillA B xs a).put (some t) v ∧ J (upN L i true) (upN xs i v) w') (fillA B xs a) w

theorem StepM.of {J : (Nat → Bool) → (Nat → Value) → World → Prop} {B : List (Nat × Nat)} {dep : Nat → List Nat} {a : Act} {i t : Nat} {o : Oper} (ho : ops[i]? = some o)
    (h : ∀ (L : Nat → Bool) (xs : Nat → Value) (w : World), (∀ j ∈ dep i, L j = true) → L i = false → J L xs w → ∀ K' : Act → World → Prop, Shut (∀ v w', J (upN L i true) (upN xs i v) w' → ∀ a', a' = (fillA B xs a).put (some t) v → K' a' w') →
      if Region.wanted o (yielded ops (fillA B xs a).tmps) = true then Oper.wp P o (fillA B xs a) w K' Q else K' ((fillA B xs a).put o.dst undef) w) : StepM P ops Q J B dep a i t :=
  fun L xs w hd hl hj => wpOp_step ho fun K' hK => h L xs w hd hl hj K' fun v w' hJ a' ha => hK a' w' ⟨v, ha, hJ⟩

theorem wpAnyD_merge {J : (Nat → Bool) → (Nat → Value) → World → Prop} {B : List (Nat × Nat)} {dep : Nat → List Nat} {a : Act} {fin : Array Bool} {fuel : Nat} (hB : apartB B = true) (hS : ∀ L xs w, J L xs w → S w)
    (step : ∀ p ∈ B, StepM P ops Q J B dep a p.1 p.2) (tail : ∀ xs w, J (lst fin) xs w → wpAnyD P md ops Q S D fuel fin (fillA B xs a) w) :
    ∀ (f : Nat) (listed : Array Bool) (xs : Nat → Value) (w : World), okM md ops (B.map (·.1)) dep fin f listed = true → J (lst listed) xs w → wpAnyD P md ops Q S D (fuel + f) listed (fillA B xs a) w
  | 0, listed, xs, w, hok, hJ => by
    have : listed = fin := by simpa [okM] using hok
    subst this
    exact tail xs w hJ
  | f + 1, listed, xs, w, hok, hJ => by
    simp only [okM, Bool.and_eq_true, List.all_eq_true] at hok
    refine ⟨fun h => ?_, fun i hi => ?_⟩
    · rw [h] at hok
      simp at hok
    · obtain ⟨⟨h1, h2⟩, h3⟩ := hok.2 i hi
      obtain ⟨p, hp, hpi⟩ := List.mem_map.1 (List.contains_iff_mem.1 h1)
      obtain ⟨i', t⟩ := p
      subst hpi
      have hl0 := (mem_ready.1 hi).1
      have hl : lst listed i' = false := by
        unfold lst
        rcases Nat.lt_or_ge i' listed.size with h' | h'
        · simp [h'] at hl0 ⊢; exact hl0
        · simp [Array.getElem?_eq_none h'] at hl0
      refine wpOp_mono ?_ (step _ hp (lst listed) xs w (fun j hj => h2 j hj) hl hJ)
      rintro a' w' ⟨v, rfl, hJ'⟩
      rw [fillA_put xs a v hB hp]
      refine ⟨fun _ => hS _ _ _ hJ', wpAnyD_merge hB hS step tail f _ _ _ h3 ?_⟩
      rw [lst_set hl0]
      exact hJ'

/-- The way in: what the slots have at the beginning does not matter. -/
theorem wpAnyD_merged {J : (Nat → Bool) → (Nat → Value) → World → Prop} (B : List (Nat × Nat)) (dep : Nat → List Nat) (fin : Array Bool) {a : Act} {w : World} {fuel n : Nat} {listed : Array Bool} (hn : n = fuel + B.length) (hB : apartB B = true) (hok : okM md ops (B.map (·.1)) dep fin B.length listed = true)
    (hS : ∀ L xs w, J L xs w → S w) (hJ : ∀ xs, J (lst listed) xs w) (step : ∀ p ∈ B, StepM P ops Q J B dep a p.1 p.2) (tail : ∀ xs w, J (lst fin) xs w → wpAnyD P md ops Q S D fuel fin (fillA B xs a) w) : wpAnyD P md ops Q S D n listed a w := by
  subst hn
  have hx : ∃ xs : Nat → Value, ∀ p ∈ B, xs p.1 = a.tmps.getD p.2 undef := by
    clear hok step tail hJ
    induction B with
    | nil => exact ⟨fun _ => undef, fun _ h => by cases h⟩
    | cons p B ih =>
      simp only [apartB, Bool.and_eq_true, List.all_eq_true, bne_iff_ne] at hB
      obtain ⟨xs, hx⟩ := ih hB.2
      refine ⟨upN xs p.1 (a.tmps.getD p.2 undef), fun q hq => ?_⟩
      rcases List.mem_cons.1 hq with rfl | hq
      · simp [upN]
      · simp [upN, (hB.1 q hq).1, hx q hq]
  obtain ⟨xs, hx⟩ := hx
  have h := wpAnyD_merge hB hS step tail B.length listed xs w hok (hJ xs)
  rwa [fillA_same a B hx] at h
end
end Go.Wh
