/- The document's reader of entries, plain: it takes the same entries as the program's. No program. No conditions. The document's numbers and sums: what fits, a number as bytes, the two sums of bytes. Conditions: they lie in memory; a number of 1 to 3 bytes that is not negative. The document's writer of bytes: a number, a place, a cell, moves. Conditions: all lies in memory, apart from the writer; what is written may be. The document's writer of bytes: a place, a cell, moves. Conditions: all lies in memory, apart from the writer; what is written may be. The document's writer of bytes: moves; the two sums of bytes. Conditions: all lies in memory, apart from the writer; what is written may be. The document's 'may': moves. Conditions: they lie in memory. The document's 'may' of an entry. Conditions: it lies in memory. The document's 'may' of an entry: the walk. Conditions: it lies in memory. The document's reader of bytes: some bytes, a number, a place, a cell, how many. Conditions: it lies in memory, apart from its bytes. The document's reader of bytes: moves. Conditions: it lies in memory, apart from its bytes. The document's writer of entries: PutEntry. Conditions: the entry lies in memory. The document's frame of an entry. Conditions: the entry lies in memory. -/
import Derived.Test.YtojkggppcmdepaaGreatTrN
import Derived.Test.YtojkggppcmdepaaGreatTrT
import Derived.Test.YtojkggppcmdepaaGreatAnyD
import Derived.Test.YtojkggppcmdepaaGreatAnyM
import Derived.Test.YtojkggppcmdepaaGreatTrW
import Derived.Test.YtojkggppcmdepaaGreatTrX
import Derived.Test.YtojkggppcmdepaaGreatTrJ
import Derived.Test.YtojkggppcmdepaaGreatTrFr
import Derived.Test.YtojkggppcmdepaaGreatRw
namespace Go.Proofs.YtojkggppcmdepaaGreat

/-- So many bytes, or noughts where there are too few, or something was wrong before. -/
def tkR (n : Nat) (s : RS) : List Int × RS := if s.2 = true ∨ s.1.length < n then (List.replicate n 0, (s.1, true)) else (s.1.take n, (s.1.drop n, s.2))
def numR (n : Nat) (s : RS) : Int × RS := (decB (tkR n s).1, (tkR n s).2)
def spR (s : RS) : (Int × Int) × RS := (((numR 1 s).1, (numR 1 (numR 1 s).2).1), (numR 1 (numR 1 s).2).2)
/-- A cell's bytes, or none. -/
def imT (a : Int × RS) : List Int × RS := if a.1 = 0 then ([], a.2) else if a.1 = 26 then (if a.2.2 = true then ([], a.2) else tkR 26 a.2) else ([], (a.2.1, true))
def imR (s : RS) : List Int × RS := imT (numR 1 s)
/-- How many. -/
def manyT (a : Int × RS) : Nat × RS := if 40 < a.1 ∨ a.2.2 = true then (0, (a.2.1, true)) else (a.1.toNat, a.2)
def manyR (s : RS) : Nat × RS := manyT (numR 1 s)
def readsR {α : Type} (f : RS → α × RS) (s : RS) : List α × RS := loopS f (manyR s).1 (manyR s).2
def mvR (s : RS) : PMv × RS := (⟨(spR s).1.1, (spR s).1.2, (spR (spR s).2).1.1, (spR (spR s).2).1.2⟩, (spR (spR s).2).2)
def lvT (a b c d : Int × RS) : PLv × RS := (⟨a.1, b.1, c.1, d.1 == 1⟩, (d.2.1, d.2.2 || decide (1 < d.1)))
def lvR (s : RS) : PLv × RS := lvT (numR 1 s) (numR 3 (numR 1 s).2) (numR 3 (numR 3 (numR 1 s).2).2) (numR 1 (numR 3 (numR 3 (numR 1 s).2).2).2)
def dtR (s : RS) : PDt × RS := (⟨(numR 1 s).1, (numR 3 (numR 1 s).2).1⟩, (numR 3 (numR 1 s).2).2)
def opR (s : RS) : POp × RS := (⟨(numR 2 s).1, (readsR mvR (numR 1 (numR 2 s).2).2).1, (numR 1 (numR 2 s).2).1⟩, (readsR mvR (numR 1 (numR 2 s).2).2).2)
def decR (s0 : RS) : PE × RS :=
  let s1 := numR 1 s0
  let s2 := numR 1 s1.2
  let s3 := numR 2 s2.2
  let s4 := numR 1 s3.2
  let s5 := numR 3 s4.2
  let s6 := numR 3 s5.2
  let s7 := spR s6.2
  let s9 := spR s7.2
  let s11 := imR s9.2
  let s12 := imR s11.2
  let s13 := readsR mvR s12.2
  let s14 := readsR lvR s13.2
  let s15 := readsR dtR s14.2
  let s16 := readsR opR s15.2
  (⟨s1.1, s2.1, s3.1, s4.1, s5.1, s6.1, s7.1.1, s7.1.2, s9.1.1, s9.1.2, s11.1, s12.1, s13.1, s14.1, s15.1, s16.1⟩, s16.2)
/-- The entry of bytes, as the document takes it. -/
def takeR (b : List Int) : Option PE := if (decR (b, false)).2.2 = false ∧ (decR (b, false)).2.1 = [] ∧ (decR (b, false)).1.may = true then some (decR (b, false)).1 else none

/-- What is read whole stood there as bytes. -/
def Snd {α : Type} (f : RS → α × RS) (enc : α → List Int) : Prop := ∀ s : RS, Byt s.1 → (f s).2.2 = false → s.2 = false ∧ s.1 = enc (f s).1 ++ (f s).2.1
theorem byt_of_snd {α : Type} {f : RS → α × RS} {enc : α → List Int} (hf : Snd f enc) {s : RS} (hb : Byt s.1) (h : (f s).2.2 = false) : Byt (f s).2.1 := by
  have h2 := (hf s hb h).2
  rw [h2] at hb
  exact hb.right
theorem numB_decB {l : List Int} {n : Nat} (hb : Byt l) (hl : l.length = n) (hn : n = 1 ∨ n = 2 ∨ n = 3) : numB n (decB l) = l := by
  have e0 : (256 : Int) ^ 0 = 1 := rfl
  have e1 : (256 : Int) ^ 1 = 256 := rfl
  have e2 : (256 : Int) ^ 2 = 65536 := rfl
  rcases hn with rfl | rfl | rfl
  · match l, hl with
    | [a], _ =>
      have ha := hb a (by simp)
      show [(0 * 256 + a) / 256 ^ 0 % 256] = [a]
      rw [e0]
      congr 1
      omega
  · match l, hl with
    | [a, b], _ =>
      have ha := hb a (by simp)
      have hb' := hb b (by simp)
      show [((0 * 256 + a) * 256 + b) / 256 ^ 1 % 256, ((0 * 256 + a) * 256 + b) / 256 ^ 0 % 256] = [a, b]
      rw [e0, e1]
      congr 1
      · omega
      · congr 1
        omega
  · match l, hl with
    | [a, b, c], _ =>
      have ha := hb a (by simp)
      have hb' := hb b (by simp)
      have hc := hb c (by simp)
      show [(((0 * 256 + a) * 256 + b) * 256 + c) / 256 ^ 2 % 256, (((0 * 256 + a) * 256 + b) * 256 + c) / 256 ^ 1 % 256, (((0 * 256 + a) * 256 + b) * 256 + c) / 256 ^ 0 % 256] = [a, b, c]
      rw [e0, e1, e2]
      congr 1
      · omega
      · congr 1
        · omega
        · congr 1
          omega
theorem tkR_snd {n : Nat} {s : RS} (h : (tkR n s).2.2 = false) : s.2 = false ∧ s.1 = (tkR n s).1 ++ (tkR n s).2.1 ∧ (tkR n s).1.length = n := by
  unfold tkR at h ⊢
  split at h
  · cases h
  · rename_i hc
    rw [if_neg hc]
    rw [not_or] at hc
    refine ⟨h, (List.take_append_drop n s.1).symm, ?_⟩
    rw [List.length_take]
    omega
theorem numR_snd {n : Nat} (hn : n = 1 ∨ n = 2 ∨ n = 3) : Snd (numR n) (fun v => numsB n [v]) := by
  intro s hb h
  obtain ⟨h1, h2, h3⟩ := tkR_snd (n := n) (s := s) h
  refine ⟨h1, ?_⟩
  have hby : Byt (tkR n s).1 := by
    have := hb
    rw [h2] at this
    exact this.left
  have e : numsB n [(numR n s).1] = (tkR n s).1 := by
    show numB n (decB (tkR n s).1) ++ [] = _
    rw [List.append_nil]
    exact numB_decB hby h3 hn
  show s.1 = numsB n [(numR n s).1] ++ (tkR n s).2.1
  rw [e]
  exact h2
/-- What was wrong stays so. -/
def Bad {α : Type} (f : RS → α × RS) : Prop := ∀ s : RS, s.2 = true → (f s).2.2 = true
theorem Bad.ok {α : Type} {f : RS → α × RS} (h : Bad f) {s : RS} (hf : (f s).2.2 = false) : s.2 = false := by
  cases hs : s.2 with
  | false => rfl
  | true =>
    have := h s hs
    rw [this] at hf
    cases hf
theorem tkR_bad {n : Nat} : Bad (tkR n) := fun s h => by
  unfold tkR
  rw [if_pos (.inl h)]
theorem numR_bad {n : Nat} : Bad (numR n) := fun s h => tkR_bad s h
theorem spR_bad : Bad spR := fun s h => numR_bad _ (numR_bad s h)
theorem imR_bad : Bad imR := fun s h => by
  have h1 : (numR 1 s).2.2 = true := numR_bad s h
  unfold imR imT
  split
  · exact h1
  · split
    · exact h1
    · rfl
theorem manyR_bad : Bad manyR := fun s h => by
  have h1 : (numR 1 s).2.2 = true := numR_bad s h
  unfold manyR manyT
  rw [if_pos (.inr h1)]
theorem loopS_bad {α : Type} {f : RS → α × RS} (_hf : Bad f) (k : Nat) : Bad (loopS f k) := fun s h => by
  cases k with
  | zero => exact h
  | succ k =>
    unfold loopS
    rw [if_pos h]
    exact h
theorem readsR_bad {α : Type} {f : RS → α × RS} (hf : Bad f) : Bad (readsR f) := fun s h => loopS_bad hf _ _ (manyR_bad s h)
theorem mvR_bad : Bad mvR := fun s h => spR_bad _ (spR_bad s h)
theorem lvR_bad : Bad lvR := fun s h => by
  have h1 : (numR 1 (numR 3 (numR 3 (numR 1 s).2).2).2).2.2 = true := numR_bad _ (numR_bad _ (numR_bad _ (numR_bad s h)))
  show ((numR 1 (numR 3 (numR 3 (numR 1 s).2).2).2).2.2 || _) = true
  rw [h1]
  rfl
theorem dtR_bad : Bad dtR := fun s h => numR_bad _ (numR_bad s h)
theorem opR_bad : Bad opR := fun s h => readsR_bad mvR_bad _ (numR_bad _ (numR_bad s h))
/-- One behind the other. -/
theorem snd_then {α β : Type} {f : RS → α × RS} {g : RS → β × RS} {ef : α → List Int} {eg : β → List Int} (hf : Snd f ef) (hg : Snd g eg) (bg : Bad g) {s : RS} (hb : Byt s.1) (h : (g (f s).2).2.2 = false) :
    s.2 = false ∧ (f s).2.2 = false ∧ Byt (f s).2.1 ∧ s.1 = ef (f s).1 ++ (eg (g (f s).2).1 ++ (g (f s).2).2.1) := by
  have h1 := bg.ok h
  obtain ⟨a1, a2⟩ := hf s hb h1
  have hb2 := byt_of_snd hf hb h1
  obtain ⟨b1, b2⟩ := hg _ hb2 h
  exact ⟨a1, h1, hb2, by rw [← b2]; exact a2⟩
theorem spR_snd : Snd spR (fun p => numsB 1 [p.1, p.2]) := by
  intro s hb h
  obtain ⟨a1, a2, a3, a4⟩ := snd_then (numR_snd (.inl rfl)) (numR_snd (.inl rfl)) numR_bad hb h
  refine ⟨a1, ?_⟩
  rw [a4]
  show numB 1 (numR 1 s).1 ++ [] ++ ((numB 1 (numR 1 (numR 1 s).2).1 ++ []) ++ _) = (numB 1 (numR 1 s).1 ++ (numB 1 (numR 1 (numR 1 s).2).1 ++ [])) ++ (numR 1 (numR 1 s).2).2.1
  simp only [List.append_nil, List.append_assoc]
theorem imR_snd : Snd imR imB := by
  intro s hb h
  have key : (numR 1 s).2.2 = false := by
    cases hk : (numR 1 s).2.2 with
    | false => rfl
    | true =>
      exfalso
      unfold imR imT at h
      split at h
      · rw [hk] at h; cases h
      · split at h
        · have h' : (numR 1 s).2.2 = false := h
          rw [hk] at h'; cases h'
        · cases h
  obtain ⟨a1, a2⟩ := numR_snd (.inl rfl) s hb key
  refine ⟨a1, ?_⟩
  unfold imR imT at h ⊢
  split at h
  · rename_i h0
    rw [if_pos h0]
    rw [h0] at a2
    exact a2
  · rename_i h0
    split at h
    · rename_i h6
      rw [if_neg h0, if_pos h6, if_neg (by rw [key]; simp)]
      rw [if_neg (by rw [key]; simp)] at h
      obtain ⟨b1, b2, b3⟩ := tkR_snd h
      unfold imB
      rw [b3, List.append_assoc, ← b2, a2, h6]
      rfl
    · cases h
theorem loopS_snd {α : Type} {f : RS → α × RS} {enc : α → List Int} (hf : Snd f enc) (bf : Bad f) : ∀ (k : Nat) (s : RS), Byt s.1 → (loopS f k s).2.2 = false → s.2 = false ∧ s.1 = (loopS f k s).1.flatMap enc ++ (loopS f k s).2.1 ∧ (loopS f k s).1.length = k
  | 0, s, _, h => ⟨h, rfl, rfl⟩
  | k + 1, s, hb, h => by
    have h0 : s.2 = false := (loopS_bad bf (k + 1)).ok h
    unfold loopS at h ⊢
    rw [if_neg (by rw [h0]; simp)] at h ⊢
    have h1 : (f s).2.2 = false := (loopS_bad bf k).ok h
    obtain ⟨a1, a2⟩ := hf s hb h1
    obtain ⟨b1, b2, b3⟩ := loopS_snd hf bf k (f s).2 (byt_of_snd hf hb h1) h
    refine ⟨h0, ?_, by simp [b3]⟩
    rw [List.flatMap_cons, List.append_assoc, ← b2]
    exact a2
theorem readsR_snd {α : Type} {f : RS → α × RS} {enc : α → List Int} (hf : Snd f enc) (bf : Bad f) : Snd (readsR f) (listB enc) := by
  intro s hb h
  unfold readsR at h ⊢
  have hm : (manyR s).2.2 = false := (loopS_bad bf _).ok h
  have key : (numR 1 s).2.2 = false ∧ ¬ 40 < (numR 1 s).1 := by
    unfold manyR manyT at hm
    split at hm
    · cases hm
    · rename_i hc
      rw [not_or] at hc
      exact ⟨by simpa using hc.2, hc.1⟩
  have em : manyR s = ((numR 1 s).1.toNat, (numR 1 s).2) := by
    unfold manyR manyT
    rw [if_neg (by rw [not_or]; exact ⟨key.2, by rw [key.1]; simp⟩)]
  obtain ⟨a1, a2⟩ := numR_snd (.inl rfl) s hb key.1
  rw [em] at h ⊢
  obtain ⟨b1, b2, b3⟩ := loopS_snd hf bf _ _ (byt_of_snd (numR_snd (.inl rfl)) hb key.1) h
  refine ⟨a1, ?_⟩
  unfold listB
  rw [b3, List.append_assoc, ← b2]
  have h0 : 0 ≤ (numR 1 s).1 := by
    obtain ⟨-, c2, c3⟩ := tkR_snd (n := 1) (s := s) key.1
    have hby : Byt (tkR 1 s).1 := by
      have := hb
      rw [c2] at this
      exact this.left
    show 0 ≤ decB (tkR 1 s).1
    match hl : (tkR 1 s).1, c3 with
    | [a], _ =>
      rw [hl] at hby
      have := hby a (by simp)
      show 0 ≤ 0 * 256 + a
      omega
  rw [Int.toNat_of_nonneg h0]
  exact a2
theorem mvR_snd : Snd mvR mvB := by
  intro s hb h
  obtain ⟨a1, a2, a3, a4⟩ := snd_then spR_snd spR_snd spR_bad hb h
  refine ⟨a1, ?_⟩
  show s.1 = (numsB 1 [(spR s).1.1, (spR s).1.2] ++ numsB 1 [(spR (spR s).2).1.1, (spR (spR s).2).1.2]) ++ (spR (spR s).2).2.1
  rw [List.append_assoc]
  exact a4
theorem dtR_snd : Snd dtR dtB := by
  intro s hb h
  obtain ⟨a1, a2, a3, a4⟩ := snd_then (numR_snd (.inl rfl)) (numR_snd (.inr (.inr rfl))) numR_bad hb h
  refine ⟨a1, ?_⟩
  show s.1 = (numsB 1 [(numR 1 s).1] ++ numsB 3 [(numR 3 (numR 1 s).2).1]) ++ (numR 3 (numR 1 s).2).2.1
  rw [List.append_assoc]
  exact a4
theorem nums_two (n : Nat) (a b : Int) : numsB n [a] ++ numsB n [b] = numsB n [a, b] := by simp [numsB]
theorem lvR_snd : Snd lvR lvB := by
  intro s hb h
  have h' : ((numR 1 (numR 3 (numR 3 (numR 1 s).2).2).2).2.2 || decide (1 < (numR 1 (numR 3 (numR 3 (numR 1 s).2).2).2).1)) = false := h
  rw [Bool.or_eq_false_iff] at h'
  have hd := of_decide_eq_false h'.2
  have g1 := numR_bad.ok h'.1
  have g2 := numR_bad.ok g1
  obtain ⟨a1, -, a3, a4⟩ := snd_then (numR_snd (.inl rfl)) (numR_snd (.inr (.inr rfl))) numR_bad hb g2
  have b2 := byt_of_snd (numR_snd (.inr (.inr rfl))) a3 g2
  obtain ⟨-, -, c3, c4⟩ := snd_then (numR_snd (.inr (.inr rfl))) (numR_snd (.inl rfl)) numR_bad b2 h'.1
  refine ⟨a1, ?_⟩
  generalize hx1 : numR 1 s = x1 at *
  generalize hx2 : numR 3 x1.2 = x2 at *
  generalize hx3 : numR 3 x2.2 = x3 at *
  have hr : 0 ≤ (numR 1 x3.2).1 := by
    obtain ⟨-, d2, d3⟩ := tkR_snd (n := 1) (s := x3.2) h'.1
    have hby : Byt (tkR 1 x3.2).1 := by
      have := c3
      rw [d2] at this
      exact this.left
    show 0 ≤ decB (tkR 1 x3.2).1
    match hl : (tkR 1 x3.2).1, d3 with
    | [a], _ =>
      rw [hl] at hby
      have := hby a (by simp)
      show 0 ≤ 0 * 256 + a
      omega
  generalize hx4 : numR 1 x3.2 = x4 at *
  have e : (lvR s).1 = ⟨x1.1, x2.1, x3.1, x4.1 == 1⟩ ∧ (lvR s).2.1 = x4.2.1 := by
    unfold lvR lvT
    rw [hx1, hx2, hx3, hx4]
    exact ⟨rfl, rfl⟩
  rw [e.1, e.2, a4, c4]
  have hbit : bitB (x4.1 == 1) = x4.1 := by
    by_cases h1 : x4.1 = 1
    · rw [h1]; rfl
    · have : (x4.1 == 1) = false := by rw [beq_eq_false_iff_ne]; exact h1
      rw [this]
      show (0 : Int) = _
      omega
  unfold lvB
  simp only
  rw [hbit, ← nums_two 3]
  simp only [List.append_assoc]
theorem opR_snd : Snd opR opB := by
  intro s hb h
  have h' : (readsR mvR (numR 1 (numR 2 s).2).2).2.2 = false := h
  have g1 := (readsR_bad mvR_bad).ok h'
  obtain ⟨a1, -, a3, a4⟩ := snd_then (numR_snd (.inr (.inl rfl))) (numR_snd (.inl rfl)) numR_bad hb g1
  have b2 := byt_of_snd (numR_snd (.inl rfl)) a3 g1
  obtain ⟨-, c2⟩ := (readsR_snd mvR_snd mvR_bad) _ b2 h'
  refine ⟨a1, ?_⟩
  show s.1 = (numsB 2 [(numR 2 s).1] ++ numsB 1 [(numR 1 (numR 2 s).2).1] ++ listB mvB (readsR mvR (numR 1 (numR 2 s).2).2).1) ++ (readsR mvR (numR 1 (numR 2 s).2).2).2.1
  rw [a4, c2]
  simp only [List.append_assoc]

/-- A reader that goes on from what was told. -/
structure Was (s0 : RS) (l : List Int) (s : RS) : Prop where
  a : s0.2 = false
  b : Byt s.1
  c : s0.1 = l ++ s.1
theorem decR_snd : Snd decR encB := by
  intro s hb h
  have start : s.2 = false → Was s [] s := fun e => ⟨e, hb, rfl⟩
  have step : ∀ {α : Type} {f : RS → α × RS} {enc : α → List Int} {l : List Int} {x : RS}, Snd f enc → (f x).2.2 = false → Was s l x → Was s (l ++ enc (f x).1) (f x).2 := by
    intro α f enc l x hf h0 hw
    obtain ⟨-, a2⟩ := hf x hw.b h0
    exact ⟨hw.a, byt_of_snd hf hw.b h0, by rw [hw.c, List.append_assoc, ← a2]⟩
  generalize hs1 : numR 1 s = s1 at *
  generalize hs2 : numR 1 s1.2 = s2 at *
  generalize hs3 : numR 2 s2.2 = s3 at *
  generalize hs4 : numR 1 s3.2 = s4 at *
  generalize hs5 : numR 3 s4.2 = s5 at *
  generalize hs6 : numR 3 s5.2 = s6 at *
  generalize hs7 : spR s6.2 = s7 at *
  generalize hs9 : spR s7.2 = s9 at *
  generalize hs11 : imR s9.2 = s11 at *
  generalize hs12 : imR s11.2 = s12 at *
  generalize hs13 : readsR mvR s12.2 = s13 at *
  generalize hs14 : readsR lvR s13.2 = s14 at *
  generalize hs15 : readsR dtR s14.2 = s15 at *
  generalize hs16 : readsR opR s15.2 = s16 at *
  have e : decR s = (⟨s1.1, s2.1, s3.1, s4.1, s5.1, s6.1, s7.1.1, s7.1.2, s9.1.1, s9.1.2, s11.1, s12.1, s13.1, s14.1, s15.1, s16.1⟩, s16.2) := by
    unfold decR
    simp only [hs1, hs2, hs3, hs4, hs5, hs6, hs7, hs9, hs11, hs12, hs13, hs14, hs15, hs16]
  rw [e] at h ⊢
  have h16 : s16.2.2 = false := h
  have h15 : s15.2.2 = false := (readsR_bad opR_bad).ok (by rw [hs16]; exact h16)
  have h14 : s14.2.2 = false := (readsR_bad dtR_bad).ok (by rw [hs15]; exact h15)
  have h13 : s13.2.2 = false := (readsR_bad lvR_bad).ok (by rw [hs14]; exact h14)
  have h12 : s12.2.2 = false := (readsR_bad mvR_bad).ok (by rw [hs13]; exact h13)
  have h11 : s11.2.2 = false := imR_bad.ok (by rw [hs12]; exact h12)
  have h9 : s9.2.2 = false := imR_bad.ok (by rw [hs11]; exact h11)
  have h7 : s7.2.2 = false := spR_bad.ok (by rw [hs9]; exact h9)
  have h6 : s6.2.2 = false := spR_bad.ok (by rw [hs7]; exact h7)
  have h5 : s5.2.2 = false := numR_bad.ok (by rw [hs6]; exact h6)
  have h4 : s4.2.2 = false := numR_bad.ok (by rw [hs5]; exact h5)
  have h3 : s3.2.2 = false := numR_bad.ok (by rw [hs4]; exact h4)
  have h2 : s2.2.2 = false := numR_bad.ok (by rw [hs3]; exact h3)
  have h1 : s1.2.2 = false := numR_bad.ok (by rw [hs2]; exact h2)
  have h0 : s.2 = false := numR_bad.ok (by rw [hs1]; exact h1)
  have w0 := start h0
  have w1 := step (numR_snd (.inl rfl)) (by rw [hs1]; exact h1) w0
  rw [hs1] at w1
  have w2 := step (numR_snd (.inl rfl)) (by rw [hs2]; exact h2) w1
  rw [hs2] at w2
  have w3 := step (numR_snd (.inr (.inl rfl))) (by rw [hs3]; exact h3) w2
  rw [hs3] at w3
  have w4 := step (numR_snd (.inl rfl)) (by rw [hs4]; exact h4) w3
  rw [hs4] at w4
  have w5 := step (numR_snd (.inr (.inr rfl))) (by rw [hs5]; exact h5) w4
  rw [hs5] at w5
  have w6 := step (numR_snd (.inr (.inr rfl))) (by rw [hs6]; exact h6) w5
  rw [hs6] at w6
  have w7 := step spR_snd (by rw [hs7]; exact h7) w6
  rw [hs7] at w7
  have w9 := step spR_snd (by rw [hs9]; exact h9) w7
  rw [hs9] at w9
  have w11 := step imR_snd (by rw [hs11]; exact h11) w9
  rw [hs11] at w11
  have w12 := step imR_snd (by rw [hs12]; exact h12) w11
  rw [hs12] at w12
  have w13 := step (readsR_snd mvR_snd mvR_bad) (by rw [hs13]; exact h13) w12
  rw [hs13] at w13
  have w14 := step (readsR_snd lvR_snd lvR_bad) (by rw [hs14]; exact h14) w13
  rw [hs14] at w14
  have w15 := step (readsR_snd dtR_snd dtR_bad) (by rw [hs15]; exact h15) w14
  rw [hs15] at w15
  have w16 := step (readsR_snd opR_snd opR_bad) (by rw [hs16]; exact h16) w15
  rw [hs16] at w16
  refine ⟨h0, ?_⟩
  rw [w16.c]
  unfold encB
  simp only [← nums_two, List.nil_append, List.append_assoc]

/-- What is written is read. -/
theorem tkR_app {a r : List Int} {n : Nat} (h : a.length = n) : tkR n (a ++ r, false) = (a, (r, false)) := by
  unfold tkR
  rw [if_neg (by simp only [List.length_append]; simp; omega)]
  simp only
  rw [List.take_left' h, List.drop_left' h]
theorem numR_enc {n : Nat} {v : Int} {r : List Int} (h : fitsB n [v] = true) : numR n (numsB n [v] ++ r, false) = (v, (r, false)) := by
  rw [fitsB_cons] at h
  unfold numR
  rw [show numsB n [v] = numB n v from List.append_nil _, tkR_app (numB_length n v), decB_numB n v h.1.1 h.1.2]
theorem fitsB_two {n : Nat} {a b : Int} (h : fitsB n [a, b] = true) : fitsB n [a] = true ∧ fitsB n [b] = true := by
  rw [fitsB_cons] at h
  exact ⟨by rw [fitsB_cons]; exact ⟨h.1, rfl⟩, h.2⟩
theorem spR_enc {a b : Int} {r : List Int} (h : fitsB 1 [a, b] = true) : spR (numsB 1 [a, b] ++ r, false) = ((a, b), (r, false)) := by
  obtain ⟨h1, h2⟩ := fitsB_two h
  unfold spR
  rw [← nums_two, List.append_assoc, numR_enc h1, numR_enc h2]
theorem imR_enc {b r : List Int} (h : imgB b = true) : imR (imB b ++ r, false) = (b, (r, false)) := by
  unfold imgB at h
  simp only [Bool.or_eq_true, decide_eq_true_eq] at h
  unfold imR imB
  rw [List.append_assoc, numR_enc (fits_len (by omega))]
  unfold imT
  simp only
  rcases h with h | h
  · have hb : b = [] := List.length_eq_zero_iff.1 h
    rw [hb]
    rfl
  · rw [h, if_neg (by decide), if_pos (by rfl), if_neg (by simp)]
    exact tkR_app h
theorem readsR_enc {α : Type} {f : α → List Int} {p : α → Bool} {g : RS → α × RS} (hg : ∀ x r, p x = true → g (f x ++ r, false) = (x, (r, false))) (l : List α) (r : List Int) (h : eachB p l = true) : readsR g (listB f l ++ r, false) = (l, (r, false)) := by
  unfold eachB at h
  simp only [Bool.and_eq_true, decide_eq_true_eq] at h
  have hm : manyR (listB f l ++ r, false) = (l.length, (l.flatMap f ++ r, false)) := by
    unfold manyR listB
    rw [List.append_assoc, numR_enc (fits_len (by omega))]
    unfold manyT
    simp only
    rw [if_neg (by simp; omega), Int.toNat_natCast]
  unfold readsR
  rw [hm]
  exact loopS_enc hg l r h.2
theorem mvR_enc (m : PMv) (r : List Int) (h : mvMay m = true) : mvR (mvB m ++ r, false) = (m, (r, false)) := by
  unfold mvMay at h
  simp only [Bool.and_eq_true] at h
  unfold mvR mvB
  rw [List.append_assoc, spR_enc h.1, spR_enc h.2]
theorem dtR_enc (x : PDt) (r : List Int) (h : dtMay x = true) : dtR (dtB x ++ r, false) = (x, (r, false)) := by
  unfold dtMay at h
  simp only [Bool.and_eq_true] at h
  unfold dtR dtB
  rw [List.append_assoc, numR_enc h.1, numR_enc h.2]
theorem lvR_enc (x : PLv) (r : List Int) (h : lvMay x = true) : lvR (lvB x ++ r, false) = (x, (r, false)) := by
  unfold lvMay at h
  simp only [Bool.and_eq_true] at h
  obtain ⟨h2, h3⟩ := fitsB_two h.2
  have h4 : fitsB 1 [bitB x.commit] = true := by cases x.commit <;> rfl
  unfold lvR lvB
  rw [← nums_two]
  simp only [List.append_assoc]
  rw [numR_enc h.1, numR_enc h2, numR_enc h3, numR_enc h4]
  unfold lvT
  cases x with
  | mk a b c d => cases d <;> rfl
theorem opR_enc (x : POp) (r : List Int) (h : opMay x = true) : opR (opB x ++ r, false) = (x, (r, false)) := by
  unfold opMay at h
  simp only [Bool.and_eq_true] at h
  unfold opR opB
  simp only [List.append_assoc]
  rw [numR_enc h.1.1, numR_enc h.1.2, readsR_enc mvR_enc x.moves _ h.2]
theorem decR_enc (e : PE) (h : e.may = true) (r : List Int) : decR (encB e ++ r, false) = (e, (r, false)) := by
  unfold PE.may at h
  simp only [Bool.and_eq_true] at h
  obtain ⟨⟨⟨⟨⟨⟨⟨⟨⟨⟨⟨⟨h1, h2⟩, h3⟩, h4⟩, h5⟩, h6⟩, h7⟩, h8⟩, h9⟩, h10⟩, h11⟩, h12⟩, h13⟩ := h
  have k1 : fitsB 1 [e.kind] = true := by
    rw [fitsB_cons]
    refine ⟨⟨?_, ?_⟩, rfl⟩
    · have := of_decide_eq_true h1
      omega
    · have := of_decide_eq_true h2
      have h : (256 : Int) ^ 1 = 256 := rfl
      omega
  obtain ⟨k2, k3⟩ := fitsB_two h3
  obtain ⟨k4, k5⟩ := fitsB_two h5
  unfold encB
  rw [← nums_two 1 e.kind, ← nums_two 3]
  simp only [List.append_assoc]
  unfold decR
  simp only [numR_enc k1, numR_enc k2, numR_enc h4, numR_enc k3, numR_enc k4, numR_enc k5, spR_enc h6, spR_enc h7, imR_enc h8, imR_enc h9, readsR_enc mvR_enc e.moves _ h10, readsR_enc lvR_enc e.lives _ h11, readsR_enc dtR_enc e.dirty _ h12, readsR_enc opR_enc e.opens _ h13]
/-- The document takes the entry that the program takes. -/
theorem takeR_takeE {b : List Int} (hb : Byt b) : takeR b = takeE b := by
  unfold takeR
  split
  · rename_i h
    obtain ⟨-, h2⟩ := decR_snd (b, false) hb h.1
    rw [h.2.1, List.append_nil] at h2
    exact ((takeE_iff b _).2 ⟨h.2.2, h2⟩).symm
  · rename_i h
    cases ht : takeE b with
    | none => rfl
    | some e =>
      exfalso
      obtain ⟨h1, h2⟩ := (takeE_iff b e).1 ht
      apply h
      have := decR_enc e h1 []
      rw [List.append_nil, ← h2] at this
      rw [this]
      exact ⟨rfl, rfl, h1⟩
end Go.Proofs.YtojkggppcmdepaaGreat

namespace Go.Proofs.YtojkggppcmdepaaGreat
open Go.RowKit Go.Wh Go.Maps

set_option maxRecDepth 10000 in
theorem rfits1 (w : World) (v : Int) : Calls Tryz.prog 92 #[.int .i64 v, .int .i64 1] w (SamePost w (.bool (fit1 1 v))) := by
  have e : fit1 1 v = (decide (0 ≤ v) && decide (v < 256)) := rfl
  rw [e]
  obtain ⟨q1, h1⟩ : ∃ q, decide (0 ≤ v) = q := ⟨_, rfl⟩
  obtain ⟨q2, h2⟩ : ∃ q, decide (v < 256) = q := ⟨_, rfl⟩
  rw [h1, h2]
  cases q1
  all_goals
    go_enter Tryz.func92, Tryz.ntmps92
    go_wp2_with fail
    go_ret
    exact ⟨by simp, rfl⟩
set_option maxRecDepth 10000 in
theorem rfits2 (w : World) (v : Int) : Calls Tryz.prog 92 #[.int .i64 v, .int .i64 2] w (SamePost w (.bool (fit1 2 v))) := by
  have e : fit1 2 v = (decide (0 ≤ v) && decide (v < 65536)) := rfl
  rw [e]
  obtain ⟨q1, h1⟩ : ∃ q, decide (0 ≤ v) = q := ⟨_, rfl⟩
  obtain ⟨q2, h2⟩ : ∃ q, decide (v < 65536) = q := ⟨_, rfl⟩
  rw [h1, h2]
  cases q1
  all_goals
    go_enter Tryz.func92, Tryz.ntmps92
    go_wp2_with fail
    go_ret
    exact ⟨by simp, rfl⟩
set_option maxRecDepth 10000 in
theorem rfits3 (w : World) (v : Int) : Calls Tryz.prog 92 #[.int .i64 v, .int .i64 3] w (SamePost w (.bool (fit1 3 v))) := by
  have e : fit1 3 v = (decide (0 ≤ v) && decide (v < 16777216)) := rfl
  rw [e]
  obtain ⟨q1, h1⟩ : ∃ q, decide (0 ≤ v) = q := ⟨_, rfl⟩
  obtain ⟨q2, h2⟩ : ∃ q, decide (v < 16777216) = q := ⟨_, rfl⟩
  rw [h1, h2]
  cases q1
  all_goals
    go_enter Tryz.func92, Tryz.ntmps92
    go_wp2_with fail
    go_ret
    exact ⟨by simp, rfl⟩
set_option maxRecDepth 10000 in
theorem rfitsRID (w : World) (p c : Int) : Calls Tryz.prog 93 #[.agg #[.int .i64 p, .int .i64 c]] w (StPost w (.bool (fitsB 1 [p, c]))) := by
  have e : fitsB 1 [p, c] = (fit1 1 p && (fit1 1 c && true)) := rfl
  rw [e]
  have hb := cellsAt_new w [.int .i64 p, .int .i64 c] 28
  have hst : Still w (w.alloc (.cells #[.int .i64 p, .int .i64 c] 28)) := (Still.refl w).alloc _
  have H1 := Lib.hid (rfits1 (w.alloc (.cells #[.int .i64 p, .int .i64 c] 28)) p)
  have H2 := Lib.hid (rfits1 (w.alloc (.cells #[.int .i64 p, .int .i64 c] 28)) c)
  have c0 : (w.alloc (.cells #[.int .i64 p, .int .i64 c] 28)).cell? ⟨w.heap.size, 0, none⟩ = some (.int .i64 p) := hb.cell 0
  have c1 : (w.alloc (.cells #[.int .i64 p, .int .i64 c] 28)).cell? ⟨w.heap.size, 1, none⟩ = some (.int .i64 c) := hb.cell 1
  have F := Lib.hid hst
  generalize fit1 1 p = q1 at *
  generalize fit1 1 c = q2 at *
  clear hb hst e
  go_enter Tryz.func93, Tryz.ntmps93
  go_wp2_with fail
  refine H1.out.mono ?_
  rintro e w1 ⟨rfl, rfl⟩
  cases q1 with
  | false =>
    go_wp2_with fail
    go_ret
    exact ⟨rfl, F.out⟩
  | true =>
    go_wp2_with fail
    refine H2.out.mono ?_
    rintro e w2 ⟨rfl, rfl⟩
    go_wp2_with fail
    go_ret
    exact ⟨by simp, F.out⟩
theorem numB_next {n k : Nat} (v : Int) (hk : k < n) : ((List.replicate (k + 1) (0 : Int) ++ numB (n - (k + 1)) v).set k (v / 256 ^ (n - (k + 1)) % 256)) = List.replicate k 0 ++ numB (n - k) v := by
  have e : n - k = n - (k + 1) + 1 := by omega
  rw [e, List.replicate_succ', List.append_assoc, List.set_append_right _ _ (by rw [List.length_replicate]; omega), List.length_replicate, Nat.sub_self]
  rfl
theorem bc_set' (l : List Int) (i : Nat) (z : Int) : (bc l).set i (.int .u8 z) = bc (l.set i z) := by
  unfold bc
  rw [List.map_set]
/-- What makes a row of its own. -/
def OwnRow (w : World) (l : List Int) (e : Ending) (w' : World) : Prop := ∃ b, e = .returned (.slice (some ⟨b, 0, none⟩) l.length l.length) ∧ cellsAt w' b (bc l) ∧ Still w w' ∧ w.heap.size ≤ b
set_option maxHeartbeats 1000000 in
set_option maxRecDepth 10000 in
theorem rnum (w : World) (v : Int) (n : Nat) (hn : n = 1 ∨ n = 2 ∨ n = 3) (hv : 0 ≤ v) (hv2 : v ≤ 1000000000) : Calls Tryz.prog 95 #[.int .i64 v, .int .i64 n] w (OwnRow w (numB n v)) := by
  have hmk : (Instr.makeSlice 23 (.int .i64 (n : Int)) (.int .i64 (n : Int))).run Tryz.prog w = .ok (.slice (some ⟨w.heap.size, 0, none⟩) n n) (w.alloc (.cells (bc (List.replicate n 0)).toArray 5)) := by
    rcases hn with rfl | rfl | rfl <;> kernel_rfl
  have hz := cellsAt_new w (bc (List.replicate n 0)) 5
  have hs : Still w (w.alloc (.cells (bc (List.replicate n 0)).toArray 5)) := (Still.refl w).alloc _
  have hn3 : 1 ≤ n ∧ n ≤ 3 := by omega
  have HB := Lib.hid (And.intro hz (And.intro hs (And.intro hn3 (And.intro hv hv2))))
  have u0 : IntKind.i64.wrap ((n : Int) - 1) = ((n - 1 : Nat) : Int) := by
    rw [show (n : Int) - 1 = ((n - 1 : Nat) : Int) by omega]
    exact IntWalk.i64_in _ (by omega)
  obtain ⟨n1, hn1⟩ : ∃ n1, n - 1 = n1 := ⟨_, rfl⟩
  rw [hn1] at u0
  have HN1 := Lib.hid hn1
  obtain ⟨Z, hZ⟩ : ∃ Z, Z = (bc (List.replicate n 0)).toArray := ⟨_, rfl⟩
  rw [← hZ] at hmk
  have HZ := Lib.hid hZ
  clear hn hv hv2 hz hs hn3 hn1 hZ
  go_enter Tryz.func95, Tryz.ntmps95
  go_wp2_with fail
  obtain ⟨b, hb⟩ : ∃ b, w.heap.size = b := ⟨_, rfl⟩
  have H0 := Lib.hid (show cellsAt (w.alloc (.cells Z 5)) b (bc (List.replicate n 0)) ∧ Still w (w.alloc (.cells Z 5)) from by
    rw [HZ.out, ← hb]
    exact ⟨HB.out.1, HB.out.2.1⟩)
  have HBB := Lib.hid hb
  rw [hb]
  generalize (w.alloc (.cells Z 5)) = w1 at *
  clear hmk hb
  go_loopw [0, 6] (fun s0 s6 wr => ∃ (k : Nat), ((k = 0 ∧ s6 = .int .i64 (-1)) ∨ ∃ j : Nat, k = j + 1 ∧ s6 = .int .i64 j) ∧ k ≤ n ∧ s0 = .int .i64 (v / 256 ^ (n - k)) ∧ cellsAt wr b (bc (List.replicate k 0 ++ numB (n - k) v)) ∧ Only (fun g => g = b) w1 wr) (fun _ s6 _ => (intOf s6 + 1).toNat)
  case atStart => exact ⟨n, .inr ⟨n1, by have := HN1.out; have := HB.out.2.2.1; omega, rfl⟩, Nat.le_refl _, by rw [Nat.sub_self]; simp, by rw [Nat.sub_self]; have : numB 0 v = [] := rfl; rw [this, List.append_nil]; exact H0.out.1, Only.refl _ _⟩
  case round =>
    obtain ⟨k, hk6, hkn, rfl, hc, ho⟩ := hrel
    rcases hk6 with ⟨rfl, rfl⟩ | ⟨j, rfl, rfl⟩
    · have F := Lib.hid (show OwnRow w (numB n v) (.returned (.slice (some ⟨b, 0, none⟩) n n)) wr from by
        have hl := numB_length n v
        rw [Nat.sub_zero, List.replicate_zero, List.nil_append] at hc
        have hbb := HBB.out
        exact ⟨b, by rw [hl], hc, H0.out.2.andThen ho fun i hi e => by omega, by omega⟩)
      clear hc ho hkn
      go_wp2_with fail
      go_ret
      exact F.out
    · obtain ⟨V, hV⟩ : ∃ V, v / 256 ^ (n - (j + 1)) = V := ⟨_, rfl⟩
      have hV0 : 0 ≤ V := by rw [← hV]; exact Int.ediv_nonneg HB.out.2.2.2.1 (Int.le_of_lt (Int.pow_pos (by decide)))
      have hV1 : V ≤ v := by rw [← hV]; exact Int.ediv_le_self _ HB.out.2.2.2.1
      have hv9 := HB.out.2.2.2.2
      rw [hV]
      have j0 : (0 : Int) ≤ (j : Int) := by omega
      have j1 : (j : Int) < (n : Int) := by omega
      have d1 : decide ((0 : Int) ≤ (j : Int)) = true := decide_eq_true j0
      have e1 : V % 256 % 256 = V % 256 := by omega
      have t2 : V.tdiv 256 = V / 256 := Int.tdiv_eq_ediv_of_nonneg hV0
      have e2 : IntKind.i64.wrap (V / 256) = V / 256 := IntWalk.i64_in _ (by omega)
      have e2' : wrap64 (V / 256) = V / 256 := IntWalk.wrap64_in _ (by omega)
      have hjl : j < (List.replicate (j + 1) (0 : Int) ++ numB (n - (j + 1)) v).length := by rw [List.length_append, List.length_replicate]; omega
      obtain ⟨y, hy⟩ : ∃ y, (List.replicate (j + 1) (0 : Int) ++ numB (n - (j + 1)) v)[j]? = some y := ⟨_, List.getElem?_eq_getElem hjl⟩
      have cj : wr.cell? ⟨b, j, none⟩ = some (.int .u8 y) := (hc.cell j).trans (bc_get hy)
      have fj : wr.frozen? ⟨b, j, none⟩ = false := hc.free j
      have HX := Lib.hid (show cellsAt (wr.setCell ⟨b, j, none⟩ (.int .u8 (V % 256))) b (bc (List.replicate j 0 ++ numB (n - j) v)) ∧ Only (fun g => g = b) w1 (wr.setCell ⟨b, j, none⟩ (.int .u8 (V % 256))) ∧ V / 256 = v / 256 ^ (n - j) ∧ j ≤ n from by
        refine ⟨?_, ho.setCell (p := ⟨b, j, none⟩) (.inl rfl) _, ?_, by omega⟩
        · have := hc.setCell j (.int .u8 (V % 256))
          rw [bc_set', ← hV, numB_next v (by omega)] at this
          rw [← hV]
          exact this
        · rw [← hV, show n - j = n - (j + 1) + 1 by omega, Int.pow_succ, Int.ediv_ediv_of_nonneg (Int.le_of_lt (Int.pow_pos (by decide)))])
      have u6 : IntKind.i64.wrap ((j : Int) - 1) = (j : Int) - 1 := IntWalk.i64_in _ (by have := HB.out.2.2.1; omega)
      clear hc ho hkn hjl hV hv9 hV1 hy
      go_wp2_with fail
      go_roundw
      case rel =>
        refine ⟨j, ?_, HX.out.2.2.2, by rw [← HX.out.2.2.1], HX.out.1, HX.out.2.1⟩
        rcases j with _ | j
        · exact .inl ⟨rfl, rfl⟩
        · refine .inr ⟨j, rfl, ?_⟩
          show Value.int .i64 (((j + 1 : Nat) : Int) - 1) = _
          rw [show ((j + 1 : Nat) : Int) - 1 = (j : Int) by omega]
      case measure => simp [intOf]
end Go.Proofs.YtojkggppcmdepaaGreat

namespace Go.Proofs.YtojkggppcmdepaaGreat
open Go.RowKit Go.Wh Go.Maps

set_option maxHeartbeats 2000000 in
set_option maxRecDepth 100000 in
theorem rwnum {W w : World} {X : Nat → Prop} {r : Nat} {S : List Int} {v : Value} (z : Int) (n : Nat) (hn : n = 1 ∨ n = 2 ∨ n = 3) {N : Int} (hN : (n : Int) = N) (h : WrAt W X r S v w) (hz : 0 ≤ z ∧ z ≤ 1000000000) (hS : S.length ≤ 100000) :
    Calls Tryz.prog 55 #[.pointer (some ⟨r, 0, none⟩), .int .i64 z, .int .i64 N] w (WPost W X r (S ++ numB n z)) := by
  subst hN
  have hnl := numB_length n z
  have HN := Lib.hid (fun w' => rnum w' z n hn hz.1 hz.2)
  have H := Lib.hid h
  have HNL := Lib.hid (And.intro hnl (And.intro hn hS))
  obtain ⟨i0, hi0, hz0, hz1, hz2⟩ := info_parts info_b
  have HI := Lib.hid (And.intro hi0 (And.intro hz0 (And.intro hz1 hz2)))
  have hvf := h.vec.form'
  obtain ⟨va, vc, rfl⟩ := hvf
  have c0 : w.cell? ⟨r, 0, none⟩ = some (.slice va S.length vc) := h.cells.cell 0
  obtain ⟨m, hm⟩ : ∃ m, S.length = m := ⟨_, rfl⟩
  have HM := Lib.hid hm
  have SS := Lib.hid (fun w' (hs : Still w w') => show w'.cell? ⟨r, 0, none⟩ = some (.slice va m vc) ∧ w'.frozen? ⟨r, 0, none⟩ = false from by
    rw [← hm]
    exact ⟨Still.cell hs (h.cells.cell 0), (h.cells.only hs fun e => e).free 0⟩)
  have HV := Lib.hid (fun w' (hs : Still w w') => show Vec w' 1 (.slice va m vc) m (bc S) from by
    have := h.vec.only hs fun _ _ e => e
    rw [hm] at this
    exact this)
  have HX := Lib.hid (fun w3 w7 (hs : Still w w3) (ho : Only (fun k => (Value.slice va m vc).ownBlock = some k) w3 w7) => show w7.cell? ⟨r, 0, none⟩ = some (.slice va m vc) ∧ w7.frozen? ⟨r, 0, none⟩ = false from by
    rw [← hm] at ho ⊢
    have hc := (h.cells.only hs fun e => e).only ho fun e => (h.own r e).2.1 rfl
    exact ⟨hc.cell 0, hc.free 0⟩)
  rw [hm] at c0
  clear h hz hn hS hnl hi0 hz0 hz1 hz2 hm
  go_enter Tryz.func55, Tryz.ntmps55
  go_wp2_with fail
  refine wp_region_D_drew (D := (fun i => [0, 1, 2, 3, 5, 6, 9, 10, 11].contains i)) (S := (fun w' => w'.cell? ⟨r, 0, none⟩ = some (.slice va m vc))) (by kernel_rfl) ?_ (fun hHeld => ?_)
  · exact (SS.out _ (still_drew _)).1
  (refine takeD (i := 0) (some 6) (v := ?_) rfl (by rfl) (by rfl) (by kernel_rfl) (by rfl) (fun _ _ _ h => h) ?_ ?_; rotate_left; (intro w; go_simp; try with_reducible rfl); try go_frame)
  (refine takeD (i := 1) (some 7) (v := ?_) rfl (by rfl) (by rfl) (by kernel_rfl) (by rfl) (fun _ _ _ h => h) ?_ ?_; rotate_left; (intro w; go_simp; try with_reducible rfl); try go_frame)
  (refine takeD (i := 2) (some 8) (v := ?_) rfl (by rfl) (by rfl) (by kernel_rfl) (by rfl) (fun _ _ _ h => h) ?_ ?_; rotate_left; (intro w; go_simp; try with_reducible rfl); try go_frame)
  (refine takeD (i := 3) (some 9) (v := ?_) rfl (by rfl) (by rfl) (by kernel_rfl) (by rfl) (fun _ _ _ h => h) ?_ ?_; rotate_left; (intro w; go_simp; try with_reducible rfl); try go_frame)
  (refine takeD (i := 5) (some 11) (v := ?_) rfl (by rfl) (by rfl) (by kernel_rfl) (by rfl) (fun _ _ _ h => h) ?_ ?_; rotate_left; (intro w; go_simp; try with_reducible rfl); try go_frame)
  (refine takeD (i := 6) (some 12) (v := ?_) rfl (by rfl) (by rfl) (by kernel_rfl) (by rfl) (fun _ _ _ h => h) ?_ ?_; rotate_left; (intro w; go_simp; try with_reducible rfl); try go_frame)
  (refine takeS (i := 4) (some 10) (v := ?_) rfl (by rfl) (by rfl) (by kernel_rfl) (by rfl) (fun _ _ _ h => h) (by assumption) ?_ ?_; rotate_left; (intro w hSw; (try dsimp only at hSw); go_simp; try with_reducible rfl); try go_frame)
  refine wpAnyD_ready (rs := [7]) (by kernel_rfl) (by simp) ?_
  refine ReadyD.cons rfl (fun K hK => ?_) ?_
  go_simp
  (go_at_call 95; (with_reducible refine (HN.out _).mono ?_); rintro e w3 ⟨b3, rfl, hc3, hs3, hb3⟩)
  have hs3' : Still w w3 := (still_drew w).trans hs3
  have HC3 := Lib.hid (And.intro hc3 (And.intro hs3' hb3))
  clear hc3 hs3 hb3
  go_wp2_with fail
  (refine hK.out _ _ ?_ (fun hNew => ?_); (focus (exact (SS.out _ hs3').1)); clear hHeld; have hHeld := hNew; clear hNew)
  (clear hK K; try go_frame)
  refine wpAnyD_ready (rs := [8]) (by kernel_rfl) (by simp) ?_
  refine ReadyD.cons rfl (fun K hK => ?_) ?_
  refine step_append_vec rfl _ _ 23 rfl 5 i0 _ 1 1 Tryz.underlying23 HI.out.1 HI.out.2.1 HI.out.2.2.1 HI.out.2.2.2 rfl (by decide) (.slice va m vc) m (bc S) (by simp [Act.eval]) (HV.out _ hs3') (.slice (some ⟨b3, 0, none⟩) (numB n z).length (numB n z).length) (numB n z).length (bc (numB n z)) (by simp [Act.eval]) (HC3.out.1.reads (by rw [bc_length, Nat.mul_one])) (bc_one _) (by have := HNL.out; have := HM.out; simp only [maxLen]; omega) (by have := HNL.out; have := HM.out; omega) ?_
  intro v7 w7 hv7 ho7 hb7
  obtain ⟨v7a, v7c, rfl⟩ := hv7.form'
  have hx7 := HX.out _ _ hs3' ho7
  have f7 := hx7.2
  have c7 := hx7.1
  have H7 := Lib.hid (And.intro hv7 (And.intro ho7 (And.intro hb7 hs3')))
  (refine hK.out _ _ ?_ (fun hNew => ?_); (focus (exact c7)); clear hHeld; have hHeld := hNew; clear hNew)
  clear hv7 ho7 hb7 hx7 hs3'
  (clear hK K; try go_frame)
  (refine takeD (i := 9) (some 15) (v := ?_) rfl (by rfl) (by rfl) (by kernel_rfl) (by rfl) (fun _ _ _ h => h) ?_ ?_; rotate_left; (intro w; go_simp; try with_reducible rfl); try go_frame)
  (refine takeD (i := 10) (some 16) (v := ?_) rfl (by rfl) (by rfl) (by kernel_rfl) (by rfl) (fun _ _ _ h => h) ?_ ?_; rotate_left; (intro w; go_simp; try with_reducible rfl); try go_frame)
  refine wpAnyD_ready (rs := [11]) (by kernel_rfl) (by simp) ?_
  refine ReadyD.last rfl (by rfl) (fun K hK => ?_) ?_
  go_simp
  refine hK.out _ _ ?_
  (clear hK K; try go_frame)
  refine wpAnyD_done (by kernel_rfl) ?_ _
  rotate_left
  exact ReadyD.nil
  exact ReadyD.nil
  exact ReadyD.nil
  obtain ⟨hv7, ho7, hb7, hs3'⟩ := H7.out
  have F := Lib.hid (show WPost W X r (S ++ numB n z) (.returned (.tuple #[])) (w7.setCell ⟨r, 0, none⟩ (.slice v7a (m + (numB n z).length) v7c)) from by
    have hh := (H.out.still hs3').put (Y := numB n z) (v' := .slice v7a (m + (numB n z).length) v7c) (w' := w7) (by rw [HM.out]; exact hv7) (by rw [HM.out]; exact ho7) (by rw [HM.out]; exact hb7) (numB_byt n z)
    exact ⟨rfl, _, hh⟩)
  clear hv7 ho7 hb7 HC3 hs3' H7 hHeld
  go_wp2_with fail
  go_end0
  exact F.out
end Go.Proofs.YtojkggppcmdepaaGreat

namespace Go.Proofs.YtojkggppcmdepaaGreat
open Go.RowKit Go.Wh Go.Maps

theorem nums1 {n : Nat} {z : Int} : numsB n [z] = numB n z := by
  unfold numsB
  simp
theorem nums2 {n : Nat} {y z : Int} : numsB n [y, z] = numB n y ++ numB n z := by
  unfold numsB
  simp
set_option maxHeartbeats 1000000 in
set_option maxRecDepth 10000 in
theorem rwrid {W w : World} {X : Nat → Prop} {r : Nat} {S : List Int} {v : Value} (p c : Int) (h : WrAt W X r S v w) (hp : 0 ≤ p ∧ p ≤ 1000000000) (hc : 0 ≤ c ∧ c ≤ 1000000000) (hS : S.length ≤ 90000) :
    Calls Tryz.prog 56 #[.pointer (some ⟨r, 0, none⟩), .agg #[.int .i64 p, .int .i64 c]] w (WPost W X r (S ++ numsB 1 [p, c])) := by
  have hbx := cellsAt_new w [.int .i64 p, .int .i64 c] 28
  have hst : Still w (w.alloc (.cells #[.int .i64 p, .int .i64 c] 28)) := (Still.refl w).alloc _
  have hb := h.still hst
  have HB := Lib.hid (And.intro hb (And.intro hc hS))
  have HX := Lib.hid (fun w' (k : WrAt (w.alloc (.cells #[.int .i64 p, .int .i64 c] 28)) (Its r v) r (S ++ numB 1 p) v w') => True.intro)
  have HN := Lib.hid (rwnum p 1 (.inl rfl) rfl hb.base hp (by omega))
  have c0 : (w.alloc (.cells #[.int .i64 p, .int .i64 c] 28)).cell? ⟨w.heap.size, 0, none⟩ = some (.int .i64 p) := hbx.cell 0
  have HK := Lib.hid (fun S' v' w' (k : WrAt (w.alloc (.cells #[.int .i64 p, .int .i64 c] 28)) (Its r v) r S' v' w') => show w'.cell? ⟨w.heap.size, 1, none⟩ = some (.int .i64 c) from (hbx.only k.only fun e => h.apart (Nat.le_refl _) e).cell 1)
  clear h hp hc hS hbx hst hb HX
  go_enter Tryz.func56, Tryz.ntmps56
  go_wp2_with fail
  refine HN.out.mono ?_
  rintro e w2 ⟨rfl, v2, h2⟩
  have c1 := HK.out _ _ _ h2
  have hback := HB.out.1.back h2
  have H2 := Lib.hid hback
  clear h2 HN
  go_wp2_with fail
  refine (rwnum c 1 (.inl rfl) rfl H2.out HB.out.2.1 (by rw [List.length_append, numB_length]; have := HB.out.2.2; omega)).mono ?_
  rintro e w3 ⟨rfl, v3, h3⟩
  have F := Lib.hid (show WPost W X r (S ++ numsB 1 [p, c]) (.returned (.tuple #[])) w3 from ⟨rfl, v3, by rw [nums2, ← List.append_assoc]; exact h3⟩)
  clear h3
  go_wp2_with fail
  go_end0
  exact F.out
set_option maxHeartbeats 2000000 in
set_option maxRecDepth 100000 in
theorem rwcell {W w : World} {X Q : Nat → Prop} {r : Nat} {S : List Int} {v dv : Value} {m : Nat} {l : List Int} (h : WrAt W X r S v w) (hd : Sl W Q 1 dv m (bc l)) (hq : ∀ g, Q g → ¬ X g) (hm : m ≤ 26) (hb : Byt l) (hS : S.length ≤ 90000) :
    Calls Tryz.prog 57 #[.pointer (some ⟨r, 0, none⟩), dv] w (WPost W X r (S ++ imB l)) := by
  have hlen : l.length = m := by have := hd.1; rw [bc_length] at this; omega
  have H := Lib.hid (And.intro h (And.intro hd (And.intro hm (And.intro hb hS))))
  have HN := Lib.hid (show Calls Tryz.prog 55 #[.pointer (some ⟨r, 0, none⟩), .int .i64 (m : Int), .int .i64 1] w (fun e w2 => e = .returned (.tuple #[]) ∧ ∃ v2, WrAt W X r (S ++ numsB 1 [(m : Int)]) v2 w2 ∧ Sl w2 Q 1 dv m (bc l)) from by
    refine (rwnum (m : Int) 1 (.inl rfl) rfl h (by omega) (by omega)).mono ?_
    rintro e w2 ⟨rfl, v2, h2⟩
    exact ⟨rfl, v2, by rw [nums1]; exact h2, hd.only h2.only hq⟩)
  have HL := Lib.hid hlen
  obtain ⟨da, dc, rfl⟩ := hd.form
  obtain ⟨i0, hi0, hz0, hz1, hz2⟩ := info_parts info_b
  have HI := Lib.hid (And.intro hi0 (And.intro hz0 (And.intro hz1 hz2)))
  clear h hd hq hm hb hS hlen hi0 hz0 hz1 hz2
  go_enter Tryz.func57, Tryz.ntmps57
  go_wp2_with fail
  refine HN.out.mono ?_
  rintro e w2 ⟨rfl, v2, h2, hd2⟩
  obtain ⟨va, vc, rfl⟩ := h2.vec.form'
  have c0 : w2.cell? ⟨r, 0, none⟩ = some (.slice va (S ++ numsB 1 [(m : Int)]).length vc) := h2.cells.cell 0
  have H2 := Lib.hid (And.intro h2 hd2)
  clear h2 hd2 HN
  generalize hpl : (S ++ numsB 1 [(m : Int)]).length = pl at *
  have HP := Lib.hid hpl
  clear hpl
  go_wp2_with (at_builtin; refine wpList_append_vec rfl _ _ 23 rfl 5 i0 _ 1 1 Tryz.underlying23 HI.out.1 HI.out.2.1 HI.out.2.2.1 HI.out.2.2.2 rfl (by decide) (.slice va pl vc) pl (bc (S ++ numsB 1 [(m : Int)])) (by simp [Act.eval]) ?_ (.slice da m dc) m (bc l) (by simp [Act.eval]) H2.out.2.reads (bc_one _) ?_ ?_ ?_)
  · have := H2.out.1.vec
    rwa [HP.out] at this
  · have := HP.out; rw [List.length_append, numsB_length] at this; simp only [List.length_cons, List.length_nil] at this; have := H.out; simp only [maxLen]; omega
  · have := HP.out; rw [List.length_append, numsB_length] at this; simp only [List.length_cons, List.length_nil] at this; have := H.out; omega
  · intro v' w' hv' ho' hb'
    have h3 := H2.out.1.put (Y := l) (by rw [HL.out, HP.out]; exact hv') ho' hb' H.out.2.2.2.1
    have hcl := (H2.out.1.cells.only ho' fun e => (H2.out.1.own r e).2.1 rfl)
    have c1 := hcl.cell 0
    have f1 := hcl.free 0
    obtain ⟨va', vc', rfl⟩ := hv'.form'
    have F := Lib.hid (show WPost W X r (S ++ imB l) (.returned (.tuple #[])) (w'.setCell ⟨r, 0, none⟩ (.slice va' (pl + m) vc')) from ⟨rfl, _, by
      have e : S ++ imB l = S ++ numsB 1 [(m : Int)] ++ l := by
        unfold imB
        rw [HL.out, List.append_assoc]
      rw [e]
      exact h3⟩)
    clear h3 hcl hv' ho' hb' c0
    go_wp2_with fail
    go_end0
    exact F.out

end Go.Proofs.YtojkggppcmdepaaGreat

namespace Go.Proofs.YtojkggppcmdepaaGreat
open Go.RowKit Go.Wh Go.Maps

theorem fits1_le {z : Int} (h : fitsB 1 [z] = true) : 0 ≤ z ∧ z ≤ 1000000000 := by
  simp only [fitsB_cons] at h
  have := h.1
  have e : (256 : Int) ^ 1 = 256 := rfl
  omega
set_option maxHeartbeats 2000000 in
set_option maxRecDepth 100000 in
theorem rwmoves {W w : World} {X Q : Nat → Prop} {r : Nat} {S : List Int} {v dv : Value} {m : Nat} {l : List PMv} (h : WrAt W X r S v w) (hd : Sl W Q 4 dv m (l.flatMap mvC)) (hq : ∀ g, Q g → ¬ X g) (hl : l.length = m) (hp : eachB mvMay l = true) (hS : S.length ≤ 80000) :
    Calls Tryz.prog 58 #[.pointer (some ⟨r, 0, none⟩), dv] w (WPost W X r (S ++ listB mvB l)) := by
  have hm := (eachB_len hp).1
  have H := Lib.hid (And.intro h (And.intro hd (And.intro hl (And.intro (eachB_len hp) hS))))
  have HQ := Lib.hid hq
  have HN := Lib.hid (rwnum (W := W) (X := X) (m : Int) 1 (.inl rfl) rfl h (by omega) (by omega))
  obtain ⟨da, dc, rfl⟩ := hd.form
  clear h hd hq hp hS hl hm
  go_enter Tryz.func58, Tryz.ntmps58
  go_wp2_with fail
  refine HN.out.mono ?_
  rintro e w2 ⟨rfl, v2, h2⟩
  have HST := Lib.hid (show LsRel W X r (S ++ listB mvB l) ((l.drop 0).flatMap mvB) (80100 + 0 * 164) w2 from ⟨v2, _, h2, by
    unfold listB
    rw [H.out.2.2.1, List.append_assoc, nums1]
    rfl, by rw [List.length_append, numB_length]; have := H.out.2.2.2.2; omega⟩)
  clear HN h2
  go_wp2_with fail
  go_loopw [4] (fun s wr => ∃ k : Nat, s = .int .i64 k ∧ k ≤ m ∧ LsRel W X r (S ++ listB mvB l) ((l.drop k).flatMap mvB) (80100 + k * 164) wr) (fun s _ => m - (intOf s).toNat)
  case atStart => exact ⟨0, rfl, Nat.zero_le _, HST.out⟩
  case round =>
    clear HST
    obtain ⟨k, rfl, hk, v3, pre, h3, hpre, hlen⟩ := hrel
    by_cases hi : k < m
    · obtain ⟨x, hx⟩ : ∃ x, l[k]? = some x := ⟨_, List.getElem?_eq_getElem (by have := H.out.2.2.1; omega)⟩
      have hd3 := H.out.2.1.only h3.only HQ.out
      obtain ⟨g, o, c, hg, hgq, hgl, hcs⟩ := hd3.pos (by omega)
      cases hg
      have hfc : ∀ j, j < 4 → (l.flatMap mvC)[k * 4 + j]? = (mvC x)[j]? := fun j hj => flat_get (sz := 4) (fun _ => rfl) l k j x hx hj
      have c0 : wr.cell? ⟨g, o + k * 4, none⟩ = some (.int .i64 x.fp) := hcs (k * 4) _ (hfc 0 (by omega))
      have c1 : wr.cell? ⟨g, o + k * 4 + 1, none⟩ = some (.int .i64 x.fc) := by rw [Nat.add_assoc]; exact hcs (k * 4 + 1) _ (hfc 1 (by omega))
      have b1 : decide ((k : Int) < (m : Int)) = true := by simp; omega
      have b2 : decide (k < m) = true := by simp; omega
      have b3 : (0 : Int) ≤ (k : Int) := by omega
      have hk40 : k < 40 := by have := H.out.2.2.2.1.1; have := H.out.2.2.1; omega
      have b4 : (k : Int) < (m : Int) := by omega
      have hxm := H.out.2.2.2.1.2 x (List.mem_of_getElem? hx)
      unfold mvMay at hxm
      simp only [fitsB_cons, Bool.and_eq_true] at hxm
      have e256 : (256 : Int) ^ 1 = 256 := rfl
      have HX := Lib.hid (And.intro hx (show ((0 ≤ x.fp ∧ x.fp ≤ 1000000000) ∧ (0 ≤ x.fc ∧ x.fc ≤ 1000000000)) ∧ (0 ≤ x.tp ∧ x.tp ≤ 1000000000) ∧ (0 ≤ x.tc ∧ x.tc ≤ 1000000000) from by
        obtain ⟨⟨h1, h2, -⟩, h3, h4, -⟩ := hxm
        exact ⟨⟨by omega, by omega⟩, by omega, by omega⟩))
      have HR := Lib.hid (rwrid x.fp x.fc h3 HX.out.2.1.1 HX.out.2.1.2 (by omega))
      have H3 := Lib.hid (And.intro h3 (And.intro hpre hlen))
      clear h3 hpre hlen hfc hcs hd3 hgq hgl hxm hx
      go_wp2_with fail
      refine HR.out.mono ?_
      rintro e w4 ⟨rfl, v4, h4⟩
      have hd4 := H.out.2.1.only h4.only HQ.out
      obtain ⟨g4, o4, cc4, hg4, hgq4, hgl4, hcs4⟩ := hd4.pos (by omega)
      cases hg4
      have hfc4 : ∀ j, j < 4 → (l.flatMap mvC)[k * 4 + j]? = (mvC x)[j]? := fun j hj => flat_get (sz := 4) (fun _ => rfl) l k j x HX.out.1 hj
      have c2 : w4.cell? ⟨g, o + k * 4 + 2, none⟩ = some (.int .i64 x.tp) := by rw [Nat.add_assoc]; exact hcs4 (k * 4 + 2) _ (hfc4 2 (by omega))
      have c3 : w4.cell? ⟨g, o + k * 4 + 3, none⟩ = some (.int .i64 x.tc) := by rw [Nat.add_assoc]; exact hcs4 (k * 4 + 3) _ (hfc4 3 (by omega))
      have HR2 := Lib.hid (rwrid x.tp x.tc h4 HX.out.2.2.1 HX.out.2.2.2 (by rw [List.length_append, numsB_length]; simp only [List.length_cons, List.length_nil]; have := H3.out.2.2; omega))
      clear h4 hd4 hgq4 hgl4 hcs4 hfc4 c0 c1 HR
      go_wp2_with fail
      refine HR2.out.mono ?_
      rintro e w5 ⟨rfl, v5, h5⟩
      have HNX := Lib.hid (show LsRel W X r (S ++ listB mvB l) ((l.drop (k + 1)).flatMap mvB) (80100 + (k + 1) * 164) w5 from ⟨v5, _, h5, by
        have e : pre ++ numsB 1 [x.fp, x.fc] ++ numsB 1 [x.tp, x.tc] = pre ++ mvB x := by rw [List.append_assoc]; rfl
        rw [e, List.append_assoc, ← H3.out.2.1, List.drop_eq_getElem_cons (show k < l.length by have := H.out.2.2.1; omega), show l[k]'(by have := H.out.2.2.1; omega) = x from (List.getElem?_eq_some_iff.1 HX.out.1).2, List.flatMap_cons], by
        rw [List.length_append, List.length_append, numsB_length, numsB_length]; simp only [List.length_cons, List.length_nil]; have := H3.out.2.2; omega⟩)
      clear h5 c2 c3 HR2
      have u9 : IntKind.i64.wrap ((k : Int) + 1) = (k : Int) + 1 := IntWalk.i64_in _ (by have := H.out.2.2.2.1.1; have := H.out.2.2.1; omega)
      go_wp2_with fail
      go_roundw
      case rel => exact ⟨k + 1, by go_num, by omega, HNX.out⟩
      case measure => simp [intOf]; omega
    · have hke : k = m := by omega
      have b1 : decide ((k : Int) < (m : Int)) = false := by simp; omega
      have b2 : decide (k < m) = false := by simp; omega
      have F := Lib.hid (show WPost W X r (S ++ listB mvB l) (.returned (.tuple #[])) wr from ⟨rfl, v3, by
        rw [List.drop_of_length_le (by have := H.out.2.2.1; omega)] at hpre
        have hpre' : pre ++ [] = S ++ listB mvB l := hpre
        rw [List.append_nil] at hpre'
        rw [← hpre']
        exact h3⟩)
      clear h3 hpre hlen
      go_wp2_with fail
      go_end0
      exact F.out
theorem sumB_snoc (l : List Int) (c : Int) (s : Int × Int) : sumB (l ++ [c]) s = (((sumB l s).1 + c) % 255, ((sumB l s).2 + ((sumB l s).1 + c) % 255) % 255) := by
  induction l generalizing s with
  | nil => rfl
  | cons x l ih =>
    obtain ⟨a, b⟩ := s
    exact ih _
set_option maxHeartbeats 1000000 in
set_option maxRecDepth 10000 in
theorem rsums (w : World) (Q : Nat → Prop) (a : Option Addr) (n c : Nat) (l : List Int) (h : Sl w Q 1 (.slice a n c) n (bc l)) (hb : Byt l) (hn : n ≤ 100000) :
    Calls Tryz.prog 38 #[.slice a n c] w (SamePost w (.tuple #[.int .i64 (sumB l (0, 0)).1, .int .i64 (sumB l (0, 0)).2])) := by
  have hl : l.length = n := by have := h.1; rw [bc_length] at this; omega
  have H := Lib.hid (And.intro h (And.intro hb (And.intro hn hl)))
  clear h hb hn hl
  go_enter Tryz.func38, Tryz.ntmps38
  go_wp2_with fail
  go_loopw [4, 5, 6] (fun s4 s5 s6 wr => ∃ i : Nat, s6 = .int .i64 i ∧ i ≤ n ∧ s4 = .int .i64 (sumB (l.take i) (0, 0)).1 ∧ s5 = .int .i64 (sumB (l.take i) (0, 0)).2 ∧ wr = w) (fun _ _ s6 _ => n - (intOf s6).toNat)
  case atStart => exact ⟨0, rfl, Nat.zero_le _, rfl, rfl, rfl⟩
  case round =>
    obtain ⟨i, rfl, hin, rfl, rfl, rfl⟩ := hrel
    have hr := sumB_range (l.take i) (0, 0) (by decide) (by decide)
    by_cases hi : i < n
    · obtain ⟨z, hz⟩ : ∃ z, l[i]? = some z := ⟨_, List.getElem?_eq_getElem (by have := H.out.2.2.2; omega)⟩
      have hzb := H.out.2.1 z (List.mem_of_getElem? hz)
      obtain ⟨g, o, cc, hg, -, -, hcs⟩ := H.out.1.pos (by omega)
      cases hg
      have cz : wr.cell? ⟨g, o + i, none⟩ = some (.int .u8 z) := hcs i _ (bc_get hz)
      have d1 : decide ((i : Int) < (n : Int)) = true := decide_eq_true (by omega)
      have d2 : decide (i < n) = true := decide_eq_true hi
      have i0 : (0 : Int) ≤ (i : Int) := by omega
      have i1 : (i : Int) < (n : Int) := by omega
      have HS := Lib.hid (show sumB (l.take (i + 1)) (0, 0) = (((sumB (l.take i) (0, 0)).1 + z) % 255, ((sumB (l.take i) (0, 0)).2 + ((sumB (l.take i) (0, 0)).1 + z) % 255) % 255) from by
        rw [List.take_add_one, hz]
        exact sumB_snoc _ _ _)
      obtain ⟨x, hx⟩ : ∃ x, (sumB (l.take i) (0, 0)).1 = x := ⟨_, rfl⟩
      obtain ⟨y, hy⟩ : ∃ y, (sumB (l.take i) (0, 0)).2 = y := ⟨_, rfl⟩
      rw [hx, hy] at HS hr ⊢
      have w1 : IntKind.i64.wrap z = z := IntWalk.i64_in _ (by omega)
      have w2 : IntKind.i64.wrap (x + z) = x + z := IntWalk.i64_in _ (by omega)
      have x0 : 0 ≤ x + z := by omega
      have t2 : (x + z).tmod 255 = (x + z) % 255 := Int.tmod_eq_emod_of_nonneg x0
      have w3 : IntKind.i64.wrap (y + (x + z) % 255) = y + (x + z) % 255 := IntWalk.i64_in _ (by omega)
      have t3 : (y + (x + z) % 255).tmod 255 = (y + (x + z) % 255) % 255 := Int.tmod_eq_emod_of_nonneg (by omega)
      have u1 : IntKind.i64.wrap ((i : Int) + 1) = (i : Int) + 1 := IntWalk.i64_in _ (by have := H.out.2.2.1; omega)
      clear hr hz hzb hcs hin hx hy
      go_wp2_with fail
      go_roundw
      case rel => exact ⟨i + 1, by go_num, by omega, by rw [HS.out], by rw [HS.out]; simp, trivial⟩
      case measure => simp [intOf]; omega
    · have hie : i = n := by omega
      have d1 : decide ((i : Int) < (n : Int)) = false := decide_eq_false (by omega)
      have d2 : decide (i < n) = false := decide_eq_false hi
      have ht : l.take i = l := List.take_of_length_le (by have := H.out.2.2.2; omega)
      rw [ht]
      clear ht hr hie hin hi
      go_wp2_with fail
      go_ret2
      exact ⟨rfl, rfl⟩
end Go.Proofs.YtojkggppcmdepaaGreat

namespace Go.Proofs.YtojkggppcmdepaaGreat
open Go.RowKit Go.Wh Go.Maps

theorem mvMay_no {x : PMv} (h : fitsB 1 [x.fp, x.fc] = false ∨ fitsB 1 [x.tp, x.tc] = false) : mvMay x = false := by
  unfold mvMay
  rcases h with h | h <;> rw [h] <;> simp
theorem eachB_no {α : Type} {p : α → Bool} {l : List α} {k : Nat} {x : α} (hx : l[k]? = some x) (h : p x = false) : eachB p l = false := by
  unfold eachB
  rw [Bool.and_eq_false_iff]
  right
  rw [List.all_eq_false]
  exact ⟨x, List.mem_of_getElem? hx, by rw [h]; simp⟩
theorem all_more {α : Type} {p : α → Bool} {l : List α} {k : Nat} {x : α} (hx : l[k]? = some x) (h : p x = true) (ha : (l.take k).all p = true) : (l.take (k + 1)).all p = true := by
  rw [List.take_add_one, hx, List.all_append, ha]
  simp [h]
set_option maxHeartbeats 2000000 in
set_option maxRecDepth 100000 in
theorem rfitsMoves {Q : Nat → Prop} (w : World) (dv : Value) (m : Nat) (l : List PMv) (hd : Sl w Q 4 dv m (l.flatMap mvC)) (hl : l.length = m) :
    Calls Tryz.prog 94 #[dv] w (StPost w (.bool (eachB mvMay l))) := by
  have H := Lib.hid (And.intro hd hl)
  obtain ⟨da, dc, rfl⟩ := hd.form
  clear hd hl
  go_enter Tryz.func94, Tryz.ntmps94
  go_wp2_with fail
  go_loopw [3] (fun s wr => ∃ k : Nat, s = .int .i64 k ∧ k ≤ m ∧ k ≤ 41 ∧ (l.take k).all mvMay = true ∧ Still w wr) (fun s _ => m - (intOf s).toNat)
  case atStart => exact ⟨0, rfl, Nat.zero_le _, by omega, rfl, Still.refl w⟩
  case round =>
    obtain ⟨k, rfl, hk, hk41, hall, hst⟩ := hrel
    by_cases hi : k < m
    · have b1 : decide ((k : Int) < (m : Int)) = true := decide_eq_true (by omega)
      have b2 : decide (k < m) = true := decide_eq_true (by omega)
      by_cases h41 : k < 41
      · have b3 : decide ((k : Int) < 41) = true := decide_eq_true (by omega)
        have b4 : decide (k < 41) = true := decide_eq_true h41
        obtain ⟨x, hx⟩ : ∃ x, l[k]? = some x := ⟨_, List.getElem?_eq_getElem (by have := H.out.2; omega)⟩
        obtain ⟨g, o, c, hg, -, -, hcs⟩ := (H.out.1.still hst).pos (by omega)
        cases hg
        have hfc : ∀ j, j < 4 → (l.flatMap mvC)[k * 4 + j]? = (mvC x)[j]? := fun j hj => flat_get (sz := 4) (fun _ => rfl) l k j x hx hj
        have c0 : wr.cell? ⟨g, o + k * 4, none⟩ = some (.int .i64 x.fp) := hcs (k * 4) _ (hfc 0 (by omega))
        have c1 : wr.cell? ⟨g, o + k * 4 + 1, none⟩ = some (.int .i64 x.fc) := by rw [Nat.add_assoc]; exact hcs (k * 4 + 1) _ (hfc 1 (by omega))
        have i0 : (0 : Int) ≤ (k : Int) := by omega
        have i1 : (k : Int) < (m : Int) := by omega
        have HX := Lib.hid hx
        have HR := Lib.hid (rfitsRID wr x.fp x.fc)
        have HH := Lib.hid (And.intro hall (And.intro hst (And.intro hk (And.intro h41 hi))))
        clear hall hst hk hk41 hcs hfc hx
        go_wp2_with fail
        refine HR.out.mono ?_
        rintro e w4 ⟨rfl, hs4⟩
        have H4 := Lib.hid (HH.out.2.1.trans hs4)
        clear c0 c1 HR hs4
        obtain ⟨q1, hq1⟩ : ∃ q, fitsB 1 [x.fp, x.fc] = q := ⟨_, rfl⟩
        rw [hq1]
        have HQ1 := Lib.hid hq1
        clear hq1
        cases q1
        · have F := Lib.hid (show StPost w (.bool (eachB mvMay l)) (.returned (.bool false)) w4 from ⟨by rw [eachB_no HX.out (mvMay_no (.inl HQ1.out))], H4.out⟩)
          go_wp2_with fail
          go_ret
          exact F.out
        · obtain ⟨g4, o4, cc4, hg4, -, -, hcs4⟩ := (H.out.1.still H4.out).pos (by omega)
          cases hg4
          have hfc4 : ∀ j, j < 4 → (l.flatMap mvC)[k * 4 + j]? = (mvC x)[j]? := fun j hj => flat_get (sz := 4) (fun _ => rfl) l k j x HX.out hj
          have c2 : w4.cell? ⟨g, o + k * 4 + 2, none⟩ = some (.int .i64 x.tp) := by rw [Nat.add_assoc]; exact hcs4 (k * 4 + 2) _ (hfc4 2 (by omega))
          have c3 : w4.cell? ⟨g, o + k * 4 + 3, none⟩ = some (.int .i64 x.tc) := by rw [Nat.add_assoc]; exact hcs4 (k * 4 + 3) _ (hfc4 3 (by omega))
          have HR2 := Lib.hid (rfitsRID w4 x.tp x.tc)
          clear hcs4 hfc4
          go_wp2_with fail
          refine HR2.out.mono ?_
          rintro e w5 ⟨rfl, hs5⟩
          have H5 := Lib.hid (H4.out.trans hs5)
          clear c2 c3 HR2 hs5
          obtain ⟨q2, hq2⟩ : ∃ q, fitsB 1 [x.tp, x.tc] = q := ⟨_, rfl⟩
          rw [hq2]
          have HQ2 := Lib.hid hq2
          clear hq2
          cases q2
          · have F := Lib.hid (show StPost w (.bool (eachB mvMay l)) (.returned (.bool false)) w5 from ⟨by rw [eachB_no HX.out (mvMay_no (.inr HQ2.out))], H5.out⟩)
            go_wp2_with fail
            go_ret
            exact F.out
          · have HA := Lib.hid (all_more HX.out (show mvMay x = true from by unfold mvMay; rw [HQ1.out, HQ2.out]; rfl) HH.out.1)
            have u9 : IntKind.i64.wrap ((k : Int) + 1) = (k : Int) + 1 := IntWalk.i64_in _ (by omega)
            go_wp2_with fail
            go_roundw
            case rel => exact ⟨k + 1, by go_num, by omega, by omega, HA.out, H5.out⟩
            case measure => simp [intOf]; omega
      · have b3 : decide ((k : Int) < 41) = false := decide_eq_false (by omega)
        have b4 : decide (k < 41) = false := decide_eq_false h41
        have b5 : decide ((m : Int) ≤ 40) = false := decide_eq_false (by omega)
        have b6 : decide (m ≤ 40) = false := decide_eq_false (by omega)
        have F := Lib.hid (show StPost w (.bool (eachB mvMay l)) (.returned (.bool false)) wr from ⟨by
          have : eachB mvMay l = false := by
            unfold eachB
            rw [H.out.2, b6]
            rfl
          rw [this], hst⟩)
        clear hall hst
        go_wp2_with fail
        go_ret
        exact F.out
    · have hke : k = m := by omega
      have b1 : decide ((k : Int) < (m : Int)) = false := decide_eq_false (by omega)
      have b2 : decide (k < m) = false := decide_eq_false (by omega)
      rw [List.take_of_length_le (by have := H.out.2; omega)] at hall
      have F := Lib.hid (show StPost w (.bool (eachB mvMay l)) (.returned (.bool (decide ((m : Int) ≤ 40)))) wr from ⟨by
        have : eachB mvMay l = decide ((m : Int) ≤ 40) := by
          unfold eachB
          rw [H.out.2, hall, Bool.and_true]
          exact decide_eq_decide.2 (by omega)
        rw [this], hst⟩)
      clear hall hst
      go_wp2_with fail
      go_ret
      exact F.out
end Go.Proofs.YtojkggppcmdepaaGreat

namespace Go.Proofs.YtojkggppcmdepaaGreat
open Go.RowKit Go.Wh Go.Maps

/-- What an entry has to be, one by one. -/
structure MayC (kind txn unit half prev next ap ac tp tc : Int) (old new : List Int) (moves : List PMv) (lives : List PLv) (dirty : List PDt) (opens : List POp) : Prop where
  k1 : 1 ≤ kind
  k2 : kind ≤ 10
  f1 : fit1 1 txn = true
  f2 : fit1 2 unit = true
  f3 : fit1 1 half = true
  f4 : fit1 3 prev = true
  f5 : fit1 3 next = true
  f6 : fitsB 1 [ap, ac] = true
  f7 : fitsB 1 [tp, tc] = true
  o : imgB old = true
  n : imgB new = true
  m : eachB mvMay moves = true
  l : lives.length ≤ 40
  d : dirty.length ≤ 40
  p : opens.length ≤ 40
  la : lives.all lvMay = true
  da : dirty.all dtMay = true
  pa : opens.all opMay = true
theorem may_iff (e : PE) : e.may = true ↔ MayC e.kind e.txn e.unit e.half e.prev e.next e.ap e.ac e.tp e.tc e.old e.new e.moves e.lives e.dirty e.opens := by
  constructor
  · intro h
    unfold PE.may at h
    simp only [Bool.and_eq_true, decide_eq_true_eq] at h
    obtain ⟨⟨⟨⟨⟨⟨⟨⟨⟨⟨⟨⟨h1, h2⟩, h3⟩, h4⟩, h5⟩, h6⟩, h7⟩, h8⟩, h9⟩, h10⟩, h11⟩, h12⟩, h13⟩ := h
    simp only [fitsB_all, List.all_cons, List.all_nil, Bool.and_true, Bool.and_eq_true] at h3 h4 h5
    unfold eachB at h11 h12 h13
    simp only [Bool.and_eq_true, decide_eq_true_eq] at h11 h12 h13
    exact ⟨h1, h2, h3.1, h4, h3.2, h5.1, h5.2, h6, h7, h8, h9, h10, h11.1, h12.1, h13.1, h11.2, h12.2, h13.2⟩
  · rintro ⟨h1, h2, h3, h4, h5, h6, h7, h8, h9, h10, h11, h12, h13, h14, h15, h16, h17, h18⟩
    unfold PE.may
    simp only [Bool.and_eq_true, decide_eq_true_eq]
    refine ⟨⟨⟨⟨⟨⟨⟨⟨⟨⟨⟨⟨h1, h2⟩, ?_⟩, ?_⟩, ?_⟩, h8⟩, h9⟩, h10⟩, h11⟩, h12⟩, ?_⟩, ?_⟩, ?_⟩
    · simp [fitsB_all, h3, h5]
    · simp [fitsB_all, h4]
    · simp [fitsB_all, h6, h7]
    all_goals
      unfold eachB
      simp only [Bool.and_eq_true, decide_eq_true_eq]
    · exact ⟨h13, h16⟩
    · exact ⟨h14, h17⟩
    · exact ⟨h15, h18⟩
end Go.Proofs.YtojkggppcmdepaaGreat

namespace Go.Proofs.YtojkggppcmdepaaGreat
open Go.RowKit Go.Wh Go.Maps

theorem lvMay_of {x : PLv} (h1 : fit1 1 x.txn = true) (h2 : fit1 3 x.last = true) (h3 : fit1 3 x.next = true) : lvMay x = true := by
  unfold lvMay
  simp [fitsB_all, h1, h2, h3]
theorem lvMay_no {x : PLv} (h : fit1 1 x.txn = false ∨ fit1 3 x.last = false ∨ fit1 3 x.next = false) : lvMay x = false := by
  unfold lvMay
  rcases h with h | h | h <;> simp [fitsB_all, h]
theorem dtMay_of {x : PDt} (h1 : fit1 1 x.page = true) (h2 : fit1 3 x.rc = true) : dtMay x = true := by
  unfold dtMay
  simp [fitsB_all, h1, h2]
theorem dtMay_no {x : PDt} (h : fit1 1 x.page = false ∨ fit1 3 x.rc = false) : dtMay x = false := by
  unfold dtMay
  rcases h with h | h <;> simp [fitsB_all, h]
theorem opMay_of {x : POp} (h1 : fit1 2 x.unit = true) (h2 : fit1 1 x.done = true) (h3 : eachB mvMay x.moves = true) : opMay x = true := by
  unfold opMay
  simp [fitsB_all, h1, h2, h3]
theorem opMay_no {x : POp} (h : fit1 2 x.unit = false ∨ fit1 1 x.done = false ∨ eachB mvMay x.moves = false) : opMay x = false := by
  unfold opMay
  rcases h with h | h | h <;> simp [fitsB_all, h]
theorem all_no {α : Type} {p : α → Bool} {l : List α} {k : Nat} {x : α} (hx : l[k]? = some x) (h : p x = false) : ¬ l.all p = true := by
  rw [List.all_eq_true]
  intro ha
  rw [ha x (List.mem_of_getElem? hx)] at h
  cases h
/-- Behind the second test. -/
def RmMid (w : World) (cs : List Value) (old new : List Int) (moves : List PMv) (nl nd np : Nat) (s : Value) (wc : World) : Prop :=
  ∃ q : Bool, s = .bool q ∧ (q = true → ¬ (imgB old = true ∧ imgB new = true ∧ eachB mvMay moves = true ∧ nl ≤ 40 ∧ nd ≤ 40 ∧ np ≤ 40)) ∧ (q = false → imgB old = true ∧ imgB new = true ∧ eachB mvMay moves = true ∧ nl ≤ 40 ∧ nd ≤ 40 ∧ np ≤ 40) ∧ Still w wc ∧ cellsAt wc w.heap.size cs
set_option maxHeartbeats 20000000 in
set_option maxRecDepth 100000 in
theorem rmay_head (w : World) (Q : Nat → Prop) (kind txn unit half prev next ap ac tp tc : Int) (old new : List Int) (moves : List PMv) (lives : List PLv) (dirty : List PDt) (opens : List POp) (oa na ma la da pa : Option Addr) (ol oc nl nc ml mc ll lc dl dc pl pc : Nat)
    (h1 : Sl w Q 1 (.slice oa ol oc) ol (bc old)) (h2 : Sl w Q 1 (.slice na nl nc) nl (bc new)) (h3 : Sl w Q 4 (.slice ma ml mc) ml (moves.flatMap mvC)) (k3 : moves.length = ml) (h4 : Sl w Q 4 (.slice la ll lc) ll (lives.flatMap lvC)) (k4 : lives.length = ll) (h5 : Sl w Q 2 (.slice da dl dc) dl (dirty.flatMap dtC)) (k5 : dirty.length = dl) (h6 : OpSl w Q (.slice pa pl pc) pl opens) (k6 : opens.length = pl) (r : Bool) (hr : r = true ↔ MayC kind txn unit half prev next ap ac tp tc old new moves lives dirty opens) :
    Calls Tryz.prog 54 #[.agg #[.int .i64 kind, .int .i64 txn, .int .i64 unit, .int .i64 half, .int .i64 prev, .int .i64 next, .int .i64 ap, .int .i64 ac, .int .i64 tp, .int .i64 tc, .slice oa ol oc, .slice na nl nc, .slice ma ml mc, .slice la ll lc, .slice da dl dc, .slice pa pl pc]] w (StPost w (.bool r)) := by
  have hst : Still w (w.alloc (.cells #[.int .i64 kind, .int .i64 txn, .int .i64 unit, .int .i64 half, .int .i64 prev, .int .i64 next, .int .i64 ap, .int .i64 ac, .int .i64 tp, .int .i64 tc, .slice oa ol oc, .slice na nl nc, .slice ma ml mc, .slice la ll lc, .slice da dl dc, .slice pa pl pc] 34)) := (Still.refl w).alloc _
  have hbx := cellsAt_new w [.int .i64 kind, .int .i64 txn, .int .i64 unit, .int .i64 half, .int .i64 prev, .int .i64 next, .int .i64 ap, .int .i64 ac, .int .i64 tp, .int .i64 tc, .slice oa ol oc, .slice na nl nc, .slice ma ml mc, .slice la ll lc, .slice da dl dc, .slice pa pl pc] 34
  have HK := Lib.hid (fun w' (hs : Still (w.alloc (.cells #[.int .i64 kind, .int .i64 txn, .int .i64 unit, .int .i64 half, .int .i64 prev, .int .i64 next, .int .i64 ap, .int .i64 ac, .int .i64 tp, .int .i64 tc, .slice oa ol oc, .slice na nl nc, .slice ma ml mc, .slice la ll lc, .slice da dl dc, .slice pa pl pc] 34)) w') => show Still w w' ∧ cellsAt w' w.heap.size [.int .i64 kind, .int .i64 txn, .int .i64 unit, .int .i64 half, .int .i64 prev, .int .i64 next, .int .i64 ap, .int .i64 ac, .int .i64 tp, .int .i64 tc, .slice oa ol oc, .slice na nl nc, .slice ma ml mc, .slice la ll lc, .slice da dl dc, .slice pa pl pc] from ⟨hst.trans hs, hbx.only hs fun e => e⟩)
  have HS0 := Lib.hid hst
  have HB := Lib.hid (And.intro h1 (And.intro h2 (And.intro h3 (And.intro k3 (And.intro h4 (And.intro k4 (And.intro h5 (And.intro k5 (And.intro h6 k6)))))))))
  have HN := Lib.hid (show ¬ MayC kind txn unit half prev next ap ac tp tc old new moves lives dirty opens → r = false from fun h => by
    cases r
    · rfl
    · exact absurd (hr.1 rfl) h)
  have HR := Lib.hid hr
  clear h1 h2 h3 h4 h5 h6 k3 k4 k5 k6 hst hbx hr
  by_cases g1 : 1 ≤ kind
  rotate_left
  · have d1 : decide (kind < 1) = true := decide_eq_true (by omega)
    rw [HN.out fun h => g1 h.k1]
    clear g1
    go_enter Tryz.func54, Tryz.ntmps54
    go_wp2_with fail
    go_ret
    exact ⟨rfl, HS0.out⟩
  have d1 : decide (kind < 1) = false := decide_eq_false (by omega)
  by_cases g2 : kind ≤ 10
  rotate_left
  · have d2 : decide (10 < kind) = true := decide_eq_true (by omega)
    rw [HN.out fun h => g2 h.k2]
    clear g1 g2
    go_enter Tryz.func54, Tryz.ntmps54
    go_wp2_with fail
    go_ret
    exact ⟨rfl, HS0.out⟩
  have d2 : decide (10 < kind) = false := decide_eq_false (by omega)
  have HG := Lib.hid (And.intro g1 g2)
  clear g1 g2
  go_enter Tryz.func54, Tryz.ntmps54
  go_wp2_with fail
  have HT0 := Lib.hid (HK.out _ (Still.refl _))
  have HKK := Lib.hid (fun w1 w' (h : Still w w1 ∧ cellsAt w1 w.heap.size [.int .i64 kind, .int .i64 txn, .int .i64 unit, .int .i64 half, .int .i64 prev, .int .i64 next, .int .i64 ap, .int .i64 ac, .int .i64 tp, .int .i64 tc, .slice oa ol oc, .slice na nl nc, .slice ma ml mc, .slice la ll lc, .slice da dl dc, .slice pa pl pc]) (hs : Still w1 w') => show Still w w' ∧ cellsAt w' w.heap.size [.int .i64 kind, .int .i64 txn, .int .i64 unit, .int .i64 half, .int .i64 prev, .int .i64 next, .int .i64 ap, .int .i64 ac, .int .i64 tp, .int .i64 tc, .slice oa ol oc, .slice na nl nc, .slice ma ml mc, .slice la ll lc, .slice da dl dc, .slice pa pl pc] from ⟨h.1.trans hs, h.2.only hs fun e => by omega⟩)
  generalize w.alloc (.cells #[.int .i64 kind, .int .i64 txn, .int .i64 unit, .int .i64 half, .int .i64 prev, .int .i64 next, .int .i64 ap, .int .i64 ac, .int .i64 tp, .int .i64 tc, .slice oa ol oc, .slice na nl nc, .slice ma ml mc, .slice la ll lc, .slice da dl dc, .slice pa pl pc] 34) = w0 at *
  refine (rfits1 _ txn).mono ?_
  rintro e w1 ⟨rfl, rfl⟩
  have HT1 := HT0
  obtain ⟨q, hq⟩ : ∃ q, fit1 1 txn = q := ⟨_, rfl⟩
  rw [hq]
  have HQ1 := Lib.hid hq
  clear hq
  cases q
  · have F := Lib.hid (show StPost w (.bool r) (.returned (.bool false)) _ from ⟨by rw [HN.out fun h => absurd (h.f1.symm.trans HQ1.out) (by simp)], HT1.out.1⟩)
    go_wp2_with fail
    go_ret
    exact F.out
  have c2 : World.cell? _ ⟨w.heap.size, 2, none⟩ = some (.int .i64 unit) := HT1.out.2.cell 2
  go_wp2_with fail
  refine (rfits2 _ unit).mono ?_
  rintro e w2 ⟨rfl, rfl⟩
  have HT2 := HT1
  obtain ⟨q, hq⟩ : ∃ q, fit1 2 unit = q := ⟨_, rfl⟩
  rw [hq]
  have HQ2 := Lib.hid hq
  clear hq
  cases q
  · have F := Lib.hid (show StPost w (.bool r) (.returned (.bool false)) _ from ⟨by rw [HN.out fun h => absurd (h.f2.symm.trans HQ2.out) (by simp)], HT2.out.1⟩)
    go_wp2_with fail
    go_ret
    exact F.out
  have c3 : World.cell? _ ⟨w.heap.size, 3, none⟩ = some (.int .i64 half) := HT2.out.2.cell 3
  go_wp2_with fail
  refine (rfits1 _ half).mono ?_
  rintro e w3 ⟨rfl, rfl⟩
  have HT3 := HT2
  obtain ⟨q, hq⟩ : ∃ q, fit1 1 half = q := ⟨_, rfl⟩
  rw [hq]
  have HQ3 := Lib.hid hq
  clear hq
  cases q
  · have F := Lib.hid (show StPost w (.bool r) (.returned (.bool false)) _ from ⟨by rw [HN.out fun h => absurd (h.f3.symm.trans HQ3.out) (by simp)], HT3.out.1⟩)
    go_wp2_with fail
    go_ret
    exact F.out
  have c4 : World.cell? _ ⟨w.heap.size, 4, none⟩ = some (.int .i64 prev) := HT3.out.2.cell 4
  go_wp2_with fail
  refine (rfits3 _ prev).mono ?_
  rintro e w4 ⟨rfl, rfl⟩
  have HT4 := HT3
  obtain ⟨q, hq⟩ : ∃ q, fit1 3 prev = q := ⟨_, rfl⟩
  rw [hq]
  have HQ4 := Lib.hid hq
  clear hq
  cases q
  · have F := Lib.hid (show StPost w (.bool r) (.returned (.bool false)) _ from ⟨by rw [HN.out fun h => absurd (h.f4.symm.trans HQ4.out) (by simp)], HT4.out.1⟩)
    go_wp2_with fail
    go_ret
    exact F.out
  have c5 : World.cell? _ ⟨w.heap.size, 5, none⟩ = some (.int .i64 next) := HT4.out.2.cell 5
  go_wp2_with fail
  refine (rfits3 _ next).mono ?_
  rintro e w5 ⟨rfl, rfl⟩
  have HT5 := HT4
  obtain ⟨q, hq⟩ : ∃ q, fit1 3 next = q := ⟨_, rfl⟩
  rw [hq]
  have HQ5 := Lib.hid hq
  clear hq
  cases q
  · have F := Lib.hid (show StPost w (.bool r) (.returned (.bool false)) _ from ⟨by rw [HN.out fun h => absurd (h.f5.symm.trans HQ5.out) (by simp)], HT5.out.1⟩)
    go_wp2_with fail
    go_ret
    exact F.out
  have c6 : World.cell? _ ⟨w.heap.size, 6, none⟩ = some (.int .i64 ap) := HT5.out.2.cell 6
  have c7 : World.cell? _ ⟨w.heap.size, 7, none⟩ = some (.int .i64 ac) := HT5.out.2.cell 7
  go_wp2_with fail
  refine (rfitsRID _ ap ac).mono ?_
  rintro e w6 ⟨rfl, hs⟩
  have HT6 := Lib.hid (HKK.out _ _ HT5.out hs)
  clear hs
  obtain ⟨q, hq⟩ : ∃ q, fitsB 1 [ap, ac] = q := ⟨_, rfl⟩
  rw [hq]
  have HQ6 := Lib.hid hq
  clear hq
  cases q
  · have F := Lib.hid (show StPost w (.bool r) (.returned (.bool false)) _ from ⟨by rw [HN.out fun h => absurd (h.f6.symm.trans HQ6.out) (by simp)], HT6.out.1⟩)
    go_wp2_with fail
    go_ret
    exact F.out
  have c8 : World.cell? _ ⟨w.heap.size, 8, none⟩ = some (.int .i64 tp) := HT6.out.2.cell 8
  have c9 : World.cell? _ ⟨w.heap.size, 9, none⟩ = some (.int .i64 tc) := HT6.out.2.cell 9
  go_wp2_with fail
  refine (rfitsRID _ tp tc).mono ?_
  rintro e w7 ⟨rfl, hs⟩
  have HT7 := Lib.hid (HKK.out _ _ HT6.out hs)
  clear hs
  obtain ⟨q, hq⟩ : ∃ q, fitsB 1 [tp, tc] = q := ⟨_, rfl⟩
  rw [hq]
  have HQ7 := Lib.hid hq
  clear hq
  cases q
  · have F := Lib.hid (show StPost w (.bool r) (.returned (.bool false)) _ from ⟨by rw [HN.out fun h => absurd (h.f7.symm.trans HQ7.out) (by simp)], HT7.out.1⟩)
    go_wp2_with fail
    go_ret
    exact F.out
  have HQS := Lib.hid (And.intro HQ1.out (And.intro HQ2.out (And.intro HQ3.out (And.intro HQ4.out (And.intro HQ5.out (And.intro HQ6.out HQ7.out))))))
  have HL := Lib.hid (show old.length = ol ∧ new.length = nl from by
    have a3 := HB.out.1.1
    have a4 := HB.out.2.1.1
    rw [bc_length] at a3 a4
    omega)
  go_upto_region 3 with fail
  go_cut [101] (fun s wc => RmMid w [.int .i64 kind, .int .i64 txn, .int .i64 unit, .int .i64 half, .int .i64 prev, .int .i64 next, .int .i64 ap, .int .i64 ac, .int .i64 tp, .int .i64 tc, .slice oa ol oc, .slice na nl nc, .slice ma ml mc, .slice la ll lc, .slice da dl dc, .slice pa pl pc] old new moves lives.length dirty.length opens.length s wc)
  case first =>
    have HT7 := HT7
    have c10 : w7.cell? ⟨w.heap.size, 10, none⟩ = some (.slice oa ol oc) := HT7.out.2.cell 10
    have c11 : w7.cell? ⟨w.heap.size, 11, none⟩ = some (.slice na nl nc) := HT7.out.2.cell 11
    have c12 : w7.cell? ⟨w.heap.size, 12, none⟩ = some (.slice ma ml mc) := HT7.out.2.cell 12
    clear HR HN
    obtain ⟨x1, o1⟩ : ∃ q, ((ol : Int) != 0) = q := ⟨_, rfl⟩
    obtain ⟨x2, o2⟩ : ∃ q, ((ol : Int) != 26) = q := ⟨_, rfl⟩
    obtain ⟨y1, n1⟩ : ∃ q, ((nl : Int) != 0) = q := ⟨_, rfl⟩
    obtain ⟨y2, n2⟩ : ∃ q, ((nl : Int) != 26) = q := ⟨_, rfl⟩
    have o3 : (ol != 0) = x1 := by rw [← o1, Bool.eq_iff_iff]; simp
    have o4 : (ol != 26) = x2 := by rw [← o2, Bool.eq_iff_iff]; simp; omega
    have n3 : (nl != 0) = y1 := by rw [← n1, Bool.eq_iff_iff]; simp
    have n4 : (nl != 26) = y2 := by rw [← n2, Bool.eq_iff_iff]; simp; omega
    have HXY := Lib.hid (show (imgB old = (!x1 || !x2)) ∧ imgB new = (!y1 || !y2) from by
      have a3 := HL.out
      unfold imgB
      rw [a3.1, a3.2, ← o3, ← o4, ← n3, ← n4]
      constructor <;> · rw [Bool.eq_iff_iff]; simp)
    by_cases hx : (x1 && x2) = true
    · rw [Bool.and_eq_true] at hx
      obtain ⟨rfl, rfl⟩ := hx
      have F := Lib.hid (show RmMid w [.int .i64 kind, .int .i64 txn, .int .i64 unit, .int .i64 half, .int .i64 prev, .int .i64 next, .int .i64 ap, .int .i64 ac, .int .i64 tp, .int .i64 tc, .slice oa ol oc, .slice na nl nc, .slice ma ml mc, .slice la ll lc, .slice da dl dc, .slice pa pl pc] old new moves lives.length dirty.length opens.length (.bool true) w7 from ⟨true, rfl, fun _ h => by (have h1 := h.1; rw [HXY.out.1] at h1; cases h1), fun e => by (cases e), HT7.out.1, HT7.out.2⟩)
      go_wp2_with fail
      go_meet
      case rel => exact F.out
    by_cases hy : (y1 && y2) = true
    · rw [Bool.and_eq_true] at hy
      obtain ⟨rfl, rfl⟩ := hy
      have F := Lib.hid (show RmMid w [.int .i64 kind, .int .i64 txn, .int .i64 unit, .int .i64 half, .int .i64 prev, .int .i64 next, .int .i64 ap, .int .i64 ac, .int .i64 tp, .int .i64 tc, .slice oa ol oc, .slice na nl nc, .slice ma ml mc, .slice la ll lc, .slice da dl dc, .slice pa pl pc] old new moves lives.length dirty.length opens.length (.bool true) w7 from ⟨true, rfl, fun _ h => by (have h1 := h.2.1; rw [HXY.out.2] at h1; cases h1), fun e => by (cases e), HT7.out.1, HT7.out.2⟩)
      have HHX := Lib.hid hx
      clear hx
      cases x1
      · go_wp2_with fail
        go_meet
        case rel => exact F.out
      · cases x2
        · go_wp2_with fail
          go_meet
          case rel => exact F.out
        · exact absurd rfl HHX.out
    have HIM := Lib.hid (show imgB old = true ∧ imgB new = true from by
      rw [HXY.out.1, HXY.out.2]
      cases x1 <;> cases x2 <;> cases y1 <;> cases y2 <;> simp at hx hy ⊢)
    have HHX := Lib.hid (And.intro hx hy)
    clear hx hy
    cases x1 <;> cases y1
    all_goals
      cases x2 <;> cases y2
    all_goals first
      | exact absurd rfl HHX.out.1
      | exact absurd rfl HHX.out.2
      | (exfalso; simp at o1 o2; omega)
      | (exfalso; simp at n1 n2; omega)
      | skip
    all_goals
      go_wp2_with fail
    all_goals
      refine (rfitsMoves (Q := Q) _ _ ml moves (HB.out.2.2.1.still HT7.out.1) HB.out.2.2.2.1).mono ?_
      rintro e w8 ⟨rfl, hs⟩
      have HT8 := Lib.hid (HKK.out _ _ HT7.out hs)
      clear hs c10 c11 c12
      obtain ⟨q, hq⟩ : ∃ q, eachB mvMay moves = q := ⟨_, rfl⟩
      rw [hq]
      have HQ8 := Lib.hid hq
      clear hq
      have c13 : w8.cell? ⟨w.heap.size, 13, none⟩ = some (.slice la ll lc) := HT8.out.2.cell 13
      have c14 : w8.cell? ⟨w.heap.size, 14, none⟩ = some (.slice da dl dc) := HT8.out.2.cell 14
      have c15 : w8.cell? ⟨w.heap.size, 15, none⟩ = some (.slice pa pl pc) := HT8.out.2.cell 15
    all_goals
      cases q
      · have F := Lib.hid (show RmMid w [.int .i64 kind, .int .i64 txn, .int .i64 unit, .int .i64 half, .int .i64 prev, .int .i64 next, .int .i64 ap, .int .i64 ac, .int .i64 tp, .int .i64 tc, .slice oa ol oc, .slice na nl nc, .slice ma ml mc, .slice la ll lc, .slice da dl dc, .slice pa pl pc] old new moves lives.length dirty.length opens.length (.bool true) w8 from ⟨true, rfl, fun _ h => absurd (h.2.2.1.symm.trans HQ8.out) (by simp), fun e => by (cases e), HT8.out.1, HT8.out.2⟩)
        go_wp2_with fail
        go_meet
        case rel => exact F.out
    all_goals
      by_cases g3 : ll ≤ 40
      rotate_left
      · have b1 : decide ((40 : Int) < (ll : Int)) = true := decide_eq_true (by omega)
        have b2 : decide (40 < ll) = true := decide_eq_true (by omega)
        have F := Lib.hid (show RmMid w [.int .i64 kind, .int .i64 txn, .int .i64 unit, .int .i64 half, .int .i64 prev, .int .i64 next, .int .i64 ap, .int .i64 ac, .int .i64 tp, .int .i64 tc, .slice oa ol oc, .slice na nl nc, .slice ma ml mc, .slice la ll lc, .slice da dl dc, .slice pa pl pc] old new moves lives.length dirty.length opens.length (.bool true) w8 from ⟨true, rfl, fun _ h => by have := h.2.2.2.1; have := HB.out.2.2.2.2.2.1; omega, fun e => by (cases e), HT8.out.1, HT8.out.2⟩)
        clear g3
        go_wp2_with fail
        go_meet
        case rel => exact F.out
      have b31 : decide ((40 : Int) < (ll : Int)) = false := decide_eq_false (by omega)
      have b32 : decide (40 < ll) = false := decide_eq_false (by omega)
      have HG3 := Lib.hid g3
      clear g3
    all_goals
      by_cases g4 : dl ≤ 40
      rotate_left
      · have b1 : decide ((40 : Int) < (dl : Int)) = true := decide_eq_true (by omega)
        have b2 : decide (40 < dl) = true := decide_eq_true (by omega)
        have F := Lib.hid (show RmMid w [.int .i64 kind, .int .i64 txn, .int .i64 unit, .int .i64 half, .int .i64 prev, .int .i64 next, .int .i64 ap, .int .i64 ac, .int .i64 tp, .int .i64 tc, .slice oa ol oc, .slice na nl nc, .slice ma ml mc, .slice la ll lc, .slice da dl dc, .slice pa pl pc] old new moves lives.length dirty.length opens.length (.bool true) w8 from ⟨true, rfl, fun _ h => by have := h.2.2.2.2.1; have := HB.out.2.2.2.2.2.2.2.1; omega, fun e => by (cases e), HT8.out.1, HT8.out.2⟩)
        clear g4
        go_wp2_with fail
        go_meet
        case rel => exact F.out
      have b41 : decide ((40 : Int) < (dl : Int)) = false := decide_eq_false (by omega)
      have b42 : decide (40 < dl) = false := decide_eq_false (by omega)
      have HG4 := Lib.hid g4
      clear g4
    all_goals
      by_cases g5 : pl ≤ 40
      rotate_left
      · have b1 : decide ((40 : Int) < (pl : Int)) = true := decide_eq_true (by omega)
        have b2 : decide (40 < pl) = true := decide_eq_true (by omega)
        have F := Lib.hid (show RmMid w [.int .i64 kind, .int .i64 txn, .int .i64 unit, .int .i64 half, .int .i64 prev, .int .i64 next, .int .i64 ap, .int .i64 ac, .int .i64 tp, .int .i64 tc, .slice oa ol oc, .slice na nl nc, .slice ma ml mc, .slice la ll lc, .slice da dl dc, .slice pa pl pc] old new moves lives.length dirty.length opens.length (.bool true) w8 from ⟨true, rfl, fun _ h => by have := h.2.2.2.2.2; have := HB.out.2.2.2.2.2.2.2.2.2; omega, fun e => by (cases e), HT8.out.1, HT8.out.2⟩)
        clear g5
        go_wp2_with fail
        go_meet
        case rel => exact F.out
      have b51 : decide ((40 : Int) < (pl : Int)) = false := decide_eq_false (by omega)
      have b52 : decide (40 < pl) = false := decide_eq_false (by omega)
      have HG5 := Lib.hid g5
      clear g5
    all_goals
      have F := Lib.hid (show RmMid w [.int .i64 kind, .int .i64 txn, .int .i64 unit, .int .i64 half, .int .i64 prev, .int .i64 next, .int .i64 ap, .int .i64 ac, .int .i64 tp, .int .i64 tc, .slice oa ol oc, .slice na nl nc, .slice ma ml mc, .slice la ll lc, .slice da dl dc, .slice pa pl pc] old new moves lives.length dirty.length opens.length (.bool false) w8 from ⟨false, rfl, fun e => by (cases e), fun _ => ⟨HIM.out.1, HIM.out.2, HQ8.out, by have := HB.out.2.2.2.2.2.1; have := HG3.out; omega, by have := HB.out.2.2.2.2.2.2.2.1; have := HG4.out; omega, by have := HB.out.2.2.2.2.2.2.2.2.2; have := HG5.out; omega⟩, HT8.out.1, HT8.out.2⟩)
      go_wp2_with fail
      go_meet
      case rel => exact F.out
  case rest =>
    obtain ⟨q, rfl, hq1, hq2, hst, hce⟩ := hcut
    cases q with
    | true =>
      have F := Lib.hid (show StPost w (.bool r) (.returned (.bool false)) wc from ⟨by rw [HN.out fun h => hq1 rfl ⟨h.o, h.n, h.m, h.l, h.d, h.p⟩], hst⟩)
      clear hq1 hq2 hst hce
      go_wp2_with fail
      go_ret
      exact F.out
    | false =>
      have HM := Lib.hid (hq2 rfl)
      have HT8 := Lib.hid (And.intro hst hce)
      have c13 : wc.cell? ⟨w.heap.size, 13, none⟩ = some (.slice la ll lc) := HT8.out.2.cell 13
      clear hq1 hq2 hst hce
      go_wp2_with fail
      go_loopw [3] (fun s wr => ∃ k : Nat, s = .int .i64 k ∧ k ≤ ll ∧ (lives.take k).all lvMay = true ∧ Still w wr ∧ cellsAt wr w.heap.size [.int .i64 kind, .int .i64 txn, .int .i64 unit, .int .i64 half, .int .i64 prev, .int .i64 next, .int .i64 ap, .int .i64 ac, .int .i64 tp, .int .i64 tc, .slice oa ol oc, .slice na nl nc, .slice ma ml mc, .slice la ll lc, .slice da dl dc, .slice pa pl pc]) (fun s _ => ll - (intOf s).toNat)
      case atStart => exact ⟨0, rfl, Nat.zero_le _, rfl, HT8.out.1, HT8.out.2⟩
      obtain ⟨k, rfl, hk, hall, hst, hce⟩ := hrel
      clear c13
      have HW := Lib.hid (And.intro hst hce)
      have cb : wr.cell? ⟨w.heap.size, 13, none⟩ = some (.slice la ll lc) := hce.cell 13
      by_cases hi : k < ll
      · have b1 : decide ((k : Int) < (ll : Int)) = true := decide_eq_true (by omega)
        have b2 : decide (k < ll) = true := decide_eq_true hi
        have i0 : (0 : Int) ≤ (k : Int) := by omega
        have i1 : (k : Int) < (ll : Int) := by omega
        have u9 : IntKind.i64.wrap ((k : Int) + 1) = (k : Int) + 1 := IntWalk.i64_in _ (by have := HM.out.2.2.2; have := HB.out.2.2.2.2.2.1; omega)
        obtain ⟨x, hx⟩ : ∃ x, lives[k]? = some x := ⟨_, List.getElem?_eq_getElem (by have := HB.out.2.2.2.2.2.1; omega)⟩
        obtain ⟨g, o, c, hg, -, -, hcs⟩ := ((HB.out.2.2.2.2.1).still hst).pos (by omega)
        cases hg
        have hfc : ∀ j, j < 4 → (lives.flatMap lvC)[k * 4 + j]? = (lvC x)[j]? := fun j hj => flat_get (sz := 4) (fun _ => rfl) lives k j x hx hj
        have e0 : wr.cell? ⟨g, o + k * 4, none⟩ = some (.int .i64 x.txn) := hcs (k * 4) _ (hfc 0 (by omega))
        have e1 : wr.cell? ⟨g, o + k * 4 + 1, none⟩ = some (.int .i64 x.last) := by rw [Nat.add_assoc]; exact hcs (k * 4 + 1) _ (hfc 1 (by omega))
        have e2 : wr.cell? ⟨g, o + k * 4 + 2, none⟩ = some (.int .i64 x.next) := by rw [Nat.add_assoc]; exact hcs (k * 4 + 2) _ (hfc 2 (by omega))
        have HX := Lib.hid (And.intro hx (And.intro hall hi))
        clear hk hall hst hce hcs hfc hx hi
        go_wp2_with fail
        refine (rfits1 _ x.txn).mono ?_
        rintro e w9 ⟨rfl, rfl⟩
        have HW9 := HW
        obtain ⟨q0, hq⟩ : ∃ q, fit1 1 x.txn = q := ⟨_, rfl⟩
        rw [hq]
        have HC0 := Lib.hid hq
        clear hq
        cases q0
        · have F := Lib.hid (show StPost w (.bool r) (.returned (.bool false)) _ from ⟨by rw [HN.out fun h => all_no HX.out.1 (lvMay_no (.inl HC0.out)) h.la], HW9.out.1⟩)
          go_wp2_with fail
          go_ret
          exact F.out
        go_wp2_with fail
        refine (rfits3 _ x.last).mono ?_
        rintro e w9 ⟨rfl, rfl⟩
        have HW9 := HW
        obtain ⟨q1, hq⟩ : ∃ q, fit1 3 x.last = q := ⟨_, rfl⟩
        rw [hq]
        have HC1 := Lib.hid hq
        clear hq
        cases q1
        · have F := Lib.hid (show StPost w (.bool r) (.returned (.bool false)) _ from ⟨by rw [HN.out fun h => all_no HX.out.1 (lvMay_no (.inr (.inl HC1.out))) h.la], HW9.out.1⟩)
          go_wp2_with fail
          go_ret
          exact F.out
        go_wp2_with fail
        refine (rfits3 _ x.next).mono ?_
        rintro e w9 ⟨rfl, rfl⟩
        have HW9 := HW
        obtain ⟨q2, hq⟩ : ∃ q, fit1 3 x.next = q := ⟨_, rfl⟩
        rw [hq]
        have HC2 := Lib.hid hq
        clear hq
        cases q2
        · have F := Lib.hid (show StPost w (.bool r) (.returned (.bool false)) _ from ⟨by rw [HN.out fun h => all_no HX.out.1 (lvMay_no (.inr (.inr HC2.out))) h.la], HW9.out.1⟩)
          go_wp2_with fail
          go_ret
          exact F.out
        have HAM := Lib.hid (all_more HX.out.1 (lvMay_of HC0.out HC1.out HC2.out) HX.out.2.1)
        go_wp2_with fail
        go_roundw
        case rel => exact ⟨k + 1, by go_num, by have := HX.out.2.2; omega, HAM.out, HW9.out.1, HW9.out.2⟩
        case measure => simp [intOf]; have := HX.out.2.2; omega
      have b1 : decide ((k : Int) < (ll : Int)) = false := decide_eq_false (by omega)
      have b2 : decide (k < ll) = false := decide_eq_false hi
      have HA1 := Lib.hid (show lives.all lvMay = true from by
        rw [List.take_of_length_le (by have := HB.out.2.2.2.2.2.1; omega)] at hall
        exact hall)
      have c14 : wr.cell? ⟨w.heap.size, 14, none⟩ = some (.slice da dl dc) := hce.cell 14
      have HT9 := HW
      clear hall hst hce hk hi HW
      go_wp2_with fail
      go_loopw [4] (fun s wr => ∃ k : Nat, s = .int .i64 k ∧ k ≤ dl ∧ (dirty.take k).all dtMay = true ∧ Still w wr ∧ cellsAt wr w.heap.size [.int .i64 kind, .int .i64 txn, .int .i64 unit, .int .i64 half, .int .i64 prev, .int .i64 next, .int .i64 ap, .int .i64 ac, .int .i64 tp, .int .i64 tc, .slice oa ol oc, .slice na nl nc, .slice ma ml mc, .slice la ll lc, .slice da dl dc, .slice pa pl pc]) (fun s _ => dl - (intOf s).toNat)
      case atStart => exact ⟨0, rfl, Nat.zero_le _, rfl, HT9.out.1, HT9.out.2⟩
      obtain ⟨k, rfl, hk, hall, hst, hce⟩ := hrel
      clear c14
      have HW := Lib.hid (And.intro hst hce)
      have cb : wr.cell? ⟨w.heap.size, 14, none⟩ = some (.slice da dl dc) := hce.cell 14
      by_cases hi : k < dl
      · have b1 : decide ((k : Int) < (dl : Int)) = true := decide_eq_true (by omega)
        have b2 : decide (k < dl) = true := decide_eq_true hi
        have i0 : (0 : Int) ≤ (k : Int) := by omega
        have i1 : (k : Int) < (dl : Int) := by omega
        have u9 : IntKind.i64.wrap ((k : Int) + 1) = (k : Int) + 1 := IntWalk.i64_in _ (by have := HM.out.2.2.2; have := HB.out.2.2.2.2.2.2.2.1; omega)
        obtain ⟨x, hx⟩ : ∃ x, dirty[k]? = some x := ⟨_, List.getElem?_eq_getElem (by have := HB.out.2.2.2.2.2.2.2.1; omega)⟩
        obtain ⟨g, o, c, hg, -, -, hcs⟩ := ((HB.out.2.2.2.2.2.2.1).still hst).pos (by omega)
        cases hg
        have hfc : ∀ j, j < 2 → (dirty.flatMap dtC)[k * 2 + j]? = (dtC x)[j]? := fun j hj => flat_get (sz := 2) (fun _ => rfl) dirty k j x hx hj
        have e0 : wr.cell? ⟨g, o + k * 2, none⟩ = some (.int .i64 x.page) := hcs (k * 2) _ (hfc 0 (by omega))
        have e1 : wr.cell? ⟨g, o + k * 2 + 1, none⟩ = some (.int .i64 x.rc) := by rw [Nat.add_assoc]; exact hcs (k * 2 + 1) _ (hfc 1 (by omega))
        have HX := Lib.hid (And.intro hx (And.intro hall hi))
        clear hk hall hst hce hcs hfc hx hi
        go_wp2_with fail
        refine (rfits1 _ x.page).mono ?_
        rintro e w9 ⟨rfl, rfl⟩
        have HW9 := HW
        obtain ⟨q0, hq⟩ : ∃ q, fit1 1 x.page = q := ⟨_, rfl⟩
        rw [hq]
        have HC0 := Lib.hid hq
        clear hq
        cases q0
        · have F := Lib.hid (show StPost w (.bool r) (.returned (.bool false)) _ from ⟨by rw [HN.out fun h => all_no HX.out.1 (dtMay_no (.inl HC0.out)) h.da], HW9.out.1⟩)
          go_wp2_with fail
          go_ret
          exact F.out
        go_wp2_with fail
        refine (rfits3 _ x.rc).mono ?_
        rintro e w9 ⟨rfl, rfl⟩
        have HW9 := HW
        obtain ⟨q1, hq⟩ : ∃ q, fit1 3 x.rc = q := ⟨_, rfl⟩
        rw [hq]
        have HC1 := Lib.hid hq
        clear hq
        cases q1
        · have F := Lib.hid (show StPost w (.bool r) (.returned (.bool false)) _ from ⟨by rw [HN.out fun h => all_no HX.out.1 (dtMay_no (.inr HC1.out)) h.da], HW9.out.1⟩)
          go_wp2_with fail
          go_ret
          exact F.out
        have HAM := Lib.hid (all_more HX.out.1 (dtMay_of HC0.out HC1.out) HX.out.2.1)
        go_wp2_with fail
        go_roundw
        case rel => exact ⟨k + 1, by go_num, by have := HX.out.2.2; omega, HAM.out, HW9.out.1, HW9.out.2⟩
        case measure => simp [intOf]; have := HX.out.2.2; omega
      have b1 : decide ((k : Int) < (dl : Int)) = false := decide_eq_false (by omega)
      have b2 : decide (k < dl) = false := decide_eq_false hi
      have HA2 := Lib.hid (show dirty.all dtMay = true from by
        rw [List.take_of_length_le (by have := HB.out.2.2.2.2.2.2.2.1; omega)] at hall
        exact hall)
      have c15 : wr.cell? ⟨w.heap.size, 15, none⟩ = some (.slice pa pl pc) := hce.cell 15
      have HT10 := HW
      clear hall hst hce hk hi HW
      go_wp2_with fail
      go_loopw [5] (fun s wr => ∃ k : Nat, s = .int .i64 k ∧ k ≤ pl ∧ (opens.take k).all opMay = true ∧ Still w wr ∧ cellsAt wr w.heap.size [.int .i64 kind, .int .i64 txn, .int .i64 unit, .int .i64 half, .int .i64 prev, .int .i64 next, .int .i64 ap, .int .i64 ac, .int .i64 tp, .int .i64 tc, .slice oa ol oc, .slice na nl nc, .slice ma ml mc, .slice la ll lc, .slice da dl dc, .slice pa pl pc]) (fun s _ => pl - (intOf s).toNat)
      case atStart => exact ⟨0, rfl, Nat.zero_le _, rfl, HT10.out.1, HT10.out.2⟩
      obtain ⟨k, rfl, hk, hall, hst, hce⟩ := hrel
      clear c15
      have HW := Lib.hid (And.intro hst hce)
      have cb : wr.cell? ⟨w.heap.size, 15, none⟩ = some (.slice pa pl pc) := hce.cell 15
      by_cases hi : k < pl
      · have b1 : decide ((k : Int) < (pl : Int)) = true := decide_eq_true (by omega)
        have b2 : decide (k < pl) = true := decide_eq_true hi
        have i0 : (0 : Int) ≤ (k : Int) := by omega
        have i1 : (k : Int) < (pl : Int) := by omega
        have u9 : IntKind.i64.wrap ((k : Int) + 1) = (k : Int) + 1 := IntWalk.i64_in _ (by have := HM.out.2.2.2; have := HB.out.2.2.2.2.2.2.2.2.2; omega)
        obtain ⟨x, hx⟩ : ∃ x, opens[k]? = some x := ⟨_, List.getElem?_eq_getElem (by have := HB.out.2.2.2.2.2.2.2.2.2; omega)⟩
        obtain ⟨mvs, hm1, hm2, hm3⟩ := HB.out.2.2.2.2.2.2.2.2.1
        obtain ⟨mv, hmx⟩ : ∃ mv, mvs[k]? = some mv := ⟨_, List.getElem?_eq_getElem (by have := HB.out.2.2.2.2.2.2.2.2.2; omega)⟩
        have HMV := Lib.hid (hm3 k x mv hx hmx)
        obtain ⟨xa, xc, rfl⟩ := HMV.out.form
        obtain ⟨g, o, c, hg, -, -, hcs⟩ := (hm2.still hst).pos (by omega)
        cases hg
        have hfc : ∀ j, j < 3 → ((opens.zip mvs).flatMap opC)[k * 3 + j]? = (opC (x, .slice xa x.moves.length xc))[j]? := fun j hj => flat_get (sz := 3) (fun _ => rfl) (opens.zip mvs) k j (x, _) (by rw [List.getElem?_zip_eq_some]; exact ⟨hx, hmx⟩) hj
        have e0 : wr.cell? ⟨g, o + k * 3, none⟩ = some (.int .i64 x.unit) := hcs (k * 3) _ (hfc 0 (by omega))
        have e1 : wr.cell? ⟨g, o + k * 3 + 1, none⟩ = some (.slice xa x.moves.length xc) := by rw [Nat.add_assoc]; exact hcs (k * 3 + 1) _ (hfc 1 (by omega))
        have e2 : wr.cell? ⟨g, o + k * 3 + 2, none⟩ = some (.int .i64 x.done) := by rw [Nat.add_assoc]; exact hcs (k * 3 + 2) _ (hfc 2 (by omega))
        have HX := Lib.hid (And.intro hx (And.intro hall hi))
        clear hk hall hst hce hcs hfc hx hi hm1 hm2 hm3 hmx
        go_wp2_with fail
        refine (rfits2 _ x.unit).mono ?_
        rintro e w9 ⟨rfl, rfl⟩
        have HW9 := HW
        obtain ⟨q0, hq⟩ : ∃ q, fit1 2 x.unit = q := ⟨_, rfl⟩
        rw [hq]
        have HC0 := Lib.hid hq
        clear hq
        cases q0
        · have F := Lib.hid (show StPost w (.bool r) (.returned (.bool false)) _ from ⟨by rw [HN.out fun h => all_no HX.out.1 (opMay_no (.inl HC0.out)) h.pa], HW9.out.1⟩)
          go_wp2_with fail
          go_ret
          exact F.out
        go_wp2_with fail
        refine (rfits1 _ x.done).mono ?_
        rintro e w9 ⟨rfl, rfl⟩
        have HW9 := HW
        obtain ⟨q1, hq⟩ : ∃ q, fit1 1 x.done = q := ⟨_, rfl⟩
        rw [hq]
        have HC1 := Lib.hid hq
        clear hq
        cases q1
        · have F := Lib.hid (show StPost w (.bool r) (.returned (.bool false)) _ from ⟨by rw [HN.out fun h => all_no HX.out.1 (opMay_no (.inr (.inl HC1.out))) h.pa], HW9.out.1⟩)
          go_wp2_with fail
          go_ret
          exact F.out
        go_wp2_with fail
        refine (rfitsMoves (Q := Q) _ _ x.moves.length x.moves (HMV.out.still HW9.out.1) rfl).mono ?_
        rintro e w9 ⟨rfl, hs9⟩
        have HW9 := Lib.hid (HKK.out _ _ HW.out hs9)
        clear hs9
        obtain ⟨q2, hq⟩ : ∃ q, eachB mvMay x.moves = q := ⟨_, rfl⟩
        rw [hq]
        have HC2 := Lib.hid hq
        clear hq
        cases q2
        · have F := Lib.hid (show StPost w (.bool r) (.returned (.bool false)) _ from ⟨by rw [HN.out fun h => all_no HX.out.1 (opMay_no (.inr (.inr HC2.out))) h.pa], HW9.out.1⟩)
          go_wp2_with fail
          go_ret
          exact F.out
        have HAM := Lib.hid (all_more HX.out.1 (opMay_of HC0.out HC1.out HC2.out) HX.out.2.1)
        go_wp2_with fail
        go_roundw
        case rel => exact ⟨k + 1, by go_num, by have := HX.out.2.2; omega, HAM.out, HW9.out.1, HW9.out.2⟩
        case measure => simp [intOf]; have := HX.out.2.2; omega
      have b1 : decide ((k : Int) < (pl : Int)) = false := decide_eq_false (by omega)
      have b2 : decide (k < pl) = false := decide_eq_false hi
      have HA3 := Lib.hid (show opens.all opMay = true from by
        rw [List.take_of_length_le (by have := HB.out.2.2.2.2.2.2.2.2.2; omega)] at hall
        exact hall)
      have HT11 := HW
      clear hall hst hce hk hi HW
      have HTZ := HT11
      have F := Lib.hid (show StPost w (.bool r) (.returned (.bool true)) _ from ⟨by rw [HR.out.2 ⟨HG.out.1, HG.out.2, HQS.out.1, HQS.out.2.1, HQS.out.2.2.1, HQS.out.2.2.2.1, HQS.out.2.2.2.2.1, HQS.out.2.2.2.2.2.1, HQS.out.2.2.2.2.2.2, HM.out.1, HM.out.2.1, HM.out.2.2.1, HM.out.2.2.2.1, HM.out.2.2.2.2.1, HM.out.2.2.2.2.2, HA1.out, HA2.out, HA3.out⟩], HTZ.out.1⟩)
      go_wp2_with fail
      go_ret
      exact F.out
theorem rmayE_any (w : World) (Q : Nat → Prop) (e : PE) (ov nv mv lv dv pv : Value) (h : EIs w Q e ov nv mv lv dv pv) : Calls Tryz.prog 54 #[.agg (eV e ov nv mv lv dv pv)] w (StPost w (.bool e.may)) := by
  obtain ⟨oa, oc, na, nc, ma, mc, la, lc, da, dc, pa, pc, rfl, rfl, rfl, rfl, rfl, rfl⟩ := h.forms
  exact rmay_head w Q e.kind e.txn e.unit e.half e.prev e.next e.ap e.ac e.tp e.tc e.old e.new e.moves e.lives e.dirty e.opens oa na ma la da pa _ oc _ nc _ mc _ lc _ dc _ pc h.o h.n h.m rfl h.l rfl h.d rfl h.p rfl e.may (may_iff e)
end Go.Proofs.YtojkggppcmdepaaGreat

namespace Go.Proofs.YtojkggppcmdepaaGreat
open Go.RowKit Go.Wh Go.Maps

/-- What is taken lies in a row of its own. -/
def TfPost (W : World) (X Q : Nat → Prop) (r n B : Nat) (t : List Int × RS) (e : Ending) (w' : World) : Prop := ∃ v, e = .returned v ∧ Sl w' (fun g => B ≤ g) 1 v n (bc t.1) ∧ RAt W X Q r t.2 w'
set_option maxHeartbeats 1000000 in
set_option maxRecDepth 100000 in
theorem rtake_any (W w : World) (X Q : Nat → Prop) (r n : Nat) (s : RS) (h : RAt W X Q r s w) (hn : n ≤ 255) (hl : s.1.length ≤ 100000) :
    Calls Tryz.prog 119 #[.pointer (some ⟨r, 0, none⟩), .int .i64 n] w (TfPost W X Q r n w.heap.size (tkR n s)) := by
  obtain ⟨l, sh⟩ := s
  obtain ⟨bv, hc, hb, hcap⟩ := h.b
  dsimp only at hc hb hl hcap
  have f0 := hc.free 0
  have f1 := hc.free 1
  have c1 : w.cell? ⟨r, 1, none⟩ = some (.bool sh) := hc.cell 1
  by_cases hlt : sh = true ∨ l.length < n
  · have hmk := make_b n hn
    have F := Lib.hid (fun t => show TfPost W X Q r n w.heap.size (tkR n (l, sh)) (.returned (.slice (some ⟨w.heap.size, 0, none⟩) n n)) ((w.setCell ⟨r, 1, none⟩ (.bool true)).alloc (.cells (bc (List.replicate n 0)).toArray t)) from by
      have hts : tkR n (l, sh) = (List.replicate n 0, (l, true)) := by unfold tkR; rw [if_pos hlt]
      rw [hts]
      have hs := setCell_only w ⟨r, 1, none⟩ (.bool true)
      have hz : (w.setCell ⟨r, 1, none⟩ (.bool true)).heap.size = w.heap.size := by simp [World.setCell]
      have hcc := (hc.setCell 1 (.bool true) : cellsAt _ r _)
      have hnew := cellsAt_new (w.setCell ⟨r, 1, none⟩ (.bool true)) (bc (List.replicate n 0)) t
      rw [hz] at hnew
      have hqr : ∀ g, Q g → ¬ g = r := fun g hg e => (h.qx g hg).1 (e ▸ h.rx)
      refine ⟨_, rfl, ⟨by rw [bc_length, List.length_replicate, Nat.mul_one], .inr ⟨_, _, _, rfl, fun _ => ⟨Nat.le_refl _, hnew.lt⟩, fun j u hj => by rw [Nat.zero_add, hnew.cell]; exact hj⟩⟩, ?_⟩
      exact ⟨(h.only.trans (hs.mono fun b e => by rw [show b = r from e]; exact h.rx)).alloc _, h.rx, h.rl, h.qx, ⟨bv, hcc.alloc _, (hb.only hs hqr).still ((Still.refl _).alloc _), hcap⟩, h.byt⟩)
    obtain ⟨ba, bcp, rfl⟩ := hb.form
    have c0 : w.cell? ⟨r, 0, none⟩ = some (.slice ba l.length bcp) := hc.cell 0
    generalize tkR n (l, sh) = TK at *
    generalize l.length = L at *
    cases sh with
    | true =>
      clear hc hlt hn hl h hb hcap
      go_enter Tryz.func119, Tryz.ntmps119
      go_wp2_with fail
      go_ret
      exact F.out _
    | false =>
      have hlt2 : L < n := by rcases hlt with h | h; cases h; exact h
      have d1 : decide ((L : Int) < (n : Int)) = true := decide_eq_true (by omega)
      have d2 : decide (L < n) = true := decide_eq_true hlt2
      clear hc hlt hlt2 hn hl h hb hcap
      go_enter Tryz.func119, Tryz.ntmps119
      go_wp2_with fail
      go_ret
      exact F.out _
  · rw [not_or] at hlt
    obtain ⟨hsh, hlt⟩ := hlt
    have hsh2 : sh = false := by simpa using hsh
    subst hsh2
    clear hsh
    have d1 : decide ((l.length : Int) < (n : Int)) = false := decide_eq_false (by omega)
    have d2 : decide (l.length < n) = false := decide_eq_false hlt
    obtain ⟨pv, -, r1, -, hp1, hp2⟩ := hb.part (P := Tryz.prog) (size := 1) 23 Tryz.underlying23 (fun w => rfl) hcap (Nat.zero_le n) (show n ≤ l.length by omega)
    obtain ⟨qv, -, -, r2, hq1, hq2⟩ := hb.part (P := Tryz.prog) (size := 1) 23 Tryz.underlying23 (fun w => rfl) hcap (show n ≤ l.length by omega) (Nat.le_refl _)
    have r1' := r1 rfl
    have r2' := r2 rfl
    have hts : tkR n (l, false) = (l.take n, (l.drop n, false)) := by
      unfold tkR
      rw [if_neg (by rintro (h | h); cases h; exact hlt h)]
    have hs := setCell_only w ⟨r, 0, none⟩ qv
    have hcc := (hc.setCell 0 qv : cellsAt _ r _)
    have hqr : ∀ g, Q g → ¬ g = r := fun g hg e => (h.qx g hg).1 (e ▸ h.rx)
    have hps := (hp2 w Q hb).only hs hqr
    have hqs := (hq2 w Q hb).only hs hqr
    have hz : (w.setCell ⟨r, 0, none⟩ qv).heap.size = w.heap.size := by simp [World.setCell]
    have hps' : Sl (w.setCell ⟨r, 0, none⟩ qv) Q 1 pv n (bc (l.take n)) := by
      rw [Nat.zero_mul, List.drop_zero, Nat.sub_zero, Nat.mul_one, bc_take] at hps
      exact hps
    have HRD := Lib.hid (show RAt W X Q r (l.drop n, false) (w.setCell ⟨r, 0, none⟩ qv) from
      ⟨h.only.trans (hs.mono fun b e => by rw [show b = r from e]; exact h.rx), h.rx, h.rl, h.qx, ⟨qv, hcc, by
        rw [Nat.mul_one, Nat.mul_one, bc_drop, List.take_of_length_le (by rw [bc_length, List.length_drop]; omega)] at hqs
        rw [List.length_drop]
        exact hqs, by
        rw [List.length_drop]
        exact hq1⟩, h.byt.drop n⟩)
    have HP := Lib.hid (And.intro hps' (And.intro hz (show (l.take n).length = n by rw [List.length_take]; omega)))
    have HN := Lib.hid (show n ≤ 255 from hn)
    obtain ⟨i0, hi0, hz0, hz1, hz2⟩ := info_parts info_b
    have HI := Lib.hid (And.intro hi0 (And.intro hz0 (And.intro hz1 hz2)))
    obtain ⟨ba, bcp, rfl⟩ := hb.form
    have c0 : w.cell? ⟨r, 0, none⟩ = some (.slice ba l.length bcp) := hc.cell 0
    rw [hts]
    generalize l.drop n = ld at *
    generalize l.take n = lt at *
    generalize l.length = L at *
    obtain ⟨pa, pc, rfl, -⟩ := hp1
    obtain ⟨qa, qc, rfl, -⟩ := hq1
    have HF := Lib.hid (fun tt v' w' (hv : Vec w' 1 v' (0 + n) ([] ++ bc lt)) (ho : Only (fun k => (Value.slice (some ⟨w.heap.size, 0, none⟩) 0 0).ownBlock = some k) ((w.setCell ⟨r, 0, none⟩ (.slice qa (L - n) qc)).alloc (.cells #[] tt)) w') (hb : v'.ownBlock = (Value.slice (some ⟨w.heap.size, 0, none⟩) 0 0).ownBlock ∨ ∃ g, v'.ownBlock = some g ∧ ((w.setCell ⟨r, 0, none⟩ (.slice qa (L - n) qc)).alloc (.cells #[] tt)).heap.size ≤ g ∧ g < w'.heap.size) => show TfPost W X Q r n w.heap.size (lt, (ld, false)) (.returned v') w' from by
      have hza : ((w.setCell ⟨r, 0, none⟩ (.slice qa (L - n) qc)).alloc (.cells #[] tt)).heap.size = w.heap.size + 1 := by simp
      have hzo := ho.size
      rw [hza] at hzo hb
      refine ⟨v', rfl, ?_, HRD.out.still (Only.andThen (S := fun _ => False) ((Still.refl _).alloc _) ho fun i hi e => ?_)⟩
      · rw [List.nil_append, Nat.zero_add] at hv
        exact Vec.sl hv fun g hg => by
          rcases hb with e | ⟨g', e, e1, e2⟩
          · rw [e] at hg
            have e' : w.heap.size = g := Option.some.inj hg
            omega
          · rw [e] at hg
            have e' : g' = g := Option.some.inj hg
            omega
      · have e' : w.heap.size = i := Option.some.inj e
        rw [HP.out.2.1] at hi
        omega)
    have HRD2 := Lib.hid (fun tt => show Reads ((w.setCell ⟨r, 0, none⟩ (.slice qa (L - n) qc)).alloc (.cells #[] tt)) 1 (.slice pa n pc) n (bc lt) from Reads.still HP.out.1.reads ((Still.refl _).alloc _))
    simp only [Nat.sub_zero] at *
    clear hc hlt hn hl h hb hcap hp2 hq2 r1 r2 hps hqs hps' hcc hs hqr hts hz hi0 hz0 hz1 hz2
    go_enter Tryz.func119, Tryz.ntmps119
    go_wp2_with (at_builtin; refine wpList_append_vec rfl _ _ 23 rfl 5 i0 _ 1 1 Tryz.underlying23 HI.out.1 HI.out.2.1 HI.out.2.2.1 HI.out.2.2.2 rfl (by decide) (.slice (some ⟨_, 0, none⟩) 0 0) 0 [] (by simp [Act.eval]; rfl) (Vec.none_ _ _ _ _) (.slice pa n pc) n (bc lt) (by simp [Act.eval]) (HRD2.out _) (bc_one _) (by have := HN.out; simp only [maxLen]; omega) (by have := HN.out; omega) ?_; intro v' w' hv' ho' hb'; have F := Lib.hid (HF.out _ v' w' hv' ho' hb'); clear hv' ho' hb' HF)
    go_ret
    exact F.out
set_option maxHeartbeats 1000000 in
theorem rsaid_any (w : World) (Q : Nat → Prop) (v : Value) (n : Nat) (l : List Int) (h : Sl w Q 1 v n (bc l)) (hb : Byt l) (hn : n ≤ 3) :
    Calls Tryz.prog 118 #[v] w (SamePost w (.int .i64 (decB l))) := by
  have hl : l.length = n := by have := h.1; rw [bc_length] at this; omega
  obtain ⟨va, vc, rfl⟩ := h.form
  have HB := Lib.hid (And.intro h (And.intro hb (And.intro hl hn)))
  clear h hb hl hn
  go_enter Tryz.func118, Tryz.ntmps118
  go_wp2_with fail
  go_loopw [3, 4] (fun s3 s4 wr => ∃ k : Nat, s4 = .int .i64 k ∧ k ≤ n ∧ wr = w ∧ s3 = .int .i64 (decB (l.take k))) (fun _ s4 _ => n - (intOf s4).toNat)
  case atStart => exact ⟨0, rfl, Nat.zero_le _, rfl, rfl⟩
  case round =>
    obtain ⟨k, rfl, hk, rfl, rfl⟩ := hrel
    by_cases hi : k < n
    · obtain ⟨z, hz⟩ : ∃ z, l[k]? = some z := ⟨_, List.getElem?_eq_getElem (by have := HB.out.2.2.1; omega)⟩
      obtain ⟨g, o, c, hg, -, -, hcs⟩ := HB.out.1.pos (by omega)
      cases hg
      have c0 : wr.cell? ⟨g, o + k, none⟩ = some (.int .u8 z) := hcs k _ (bc_get hz)
      have b1 : decide ((k : Int) < (n : Int)) = true := by simp; omega
      have b2 : decide (k < n) = true := by simp; omega
      have b3 : (0 : Int) ≤ (k : Int) := by omega
      have b4 : (k : Int) < (n : Int) := by omega
      have u9 : IntKind.i64.wrap ((k : Int) + 1) = (k : Int) + 1 := IntWalk.i64_in _ (by have := HB.out.2.2.2; omega)
      have hzb := HB.out.2.1 z (List.mem_of_getElem? hz)
      obtain ⟨z0, z1⟩ := hzb
      have hdr := decB_range (l.take k) (HB.out.2.1.take k)
      have hle : decB (l.take k) < 65536 := by
        have e : (l.take k).length = k := by rw [List.length_take]; have := HB.out.2.2.1; omega
        rw [e] at hdr
        have hn3 := HB.out.2.2.2
        have hk2 : k = 0 ∨ k = 1 ∨ k = 2 := by omega
        have p0 : (256 : Int) ^ 0 = 1 := rfl
        have p1 : (256 : Int) ^ 1 = 256 := rfl
        have p2 : (256 : Int) ^ 2 = 65536 := rfl
        rcases hk2 with rfl | rfl | rfl
        · rw [p0] at hdr; omega
        · rw [p1] at hdr; omega
        · rw [p2] at hdr; omega
      have h0 := hdr.1
      have HSN := Lib.hid (show decB (l.take (k + 1)) = decB (l.take k) * 256 + z from by rw [List.take_add_one, hz, Option.toList_some, decB_snoc])
      generalize decB (l.take k) = v at *
      have u1 : IntKind.i64.wrap (v * 256) = v * 256 := IntWalk.i64_in _ (by omega)
      have u2 : IntKind.i64.wrap (v * 256 + z) = v * 256 + z := IntWalk.i64_in _ (by omega)
      have u3 : IntKind.i64.wrap z = z := IntWalk.i64_in _ (by omega)
      clear hcs hz hdr
      go_wp2_with fail
      go_roundw
      case rel => exact ⟨k + 1, by go_num, by omega, trivial, by rw [HSN.out]⟩
      case measure => simp [intOf]; omega
    · have hke : k = n := by omega
      subst hke
      have b1 : decide ((k : Int) < (k : Int)) = false := by simp
      have F := Lib.hid (show SamePost wr (.int .i64 (decB l)) (.returned (.int .i64 (decB (l.take k)))) wr from ⟨by rw [List.take_of_length_le (by have := HB.out.2.2.1; omega)], rfl⟩)
      generalize decB (l.take k) = v at *
      go_wp2_with fail
      go_ret
      exact F.out
theorem tkR_byt {n : Nat} {s : RS} (h : Byt s.1) : Byt (tkR n s).1 ∧ Byt (tkR n s).2.1 := by
  unfold tkR
  split
  · exact ⟨Byt.zeros n, h⟩
  · exact ⟨h.take n, h.drop n⟩
theorem tkR_length {n : Nat} {s : RS} : (tkR n s).1.length = n := by
  unfold tkR
  split
  · simp
  · rename_i h
    rw [not_or] at h
    simp only [List.length_take]
    omega
theorem tkR_len {n : Nat} {s : RS} {k : Nat} (h : s.1.length ≤ k) : (tkR n s).2.1.length ≤ k := by
  unfold tkR
  split
  · exact h
  · simp only [List.length_drop]
    omega
theorem numR_len {n : Nat} {s : RS} {k : Nat} (h : s.1.length ≤ k) : (numR n s).2.1.length ≤ k := tkR_len h
theorem numR_range {n : Nat} {s : RS} (h : Byt s.1) : 0 ≤ (numR n s).1 ∧ (numR n s).1 < 256 ^ n := by
  have := decB_range (tkR n s).1 (tkR_byt h).1
  rw [tkR_length] at this
  exact this
theorem rnumr_any {W w : World} {X Q : Nat → Prop} {r : Nat} {s : RS} (n : Nat) {N : Int} (hN : (n : Int) = N) (h : RAt W X Q r s w) (hn : n ≤ 3) (hl : s.1.length ≤ 100000) :
    Calls Tryz.prog 74 #[.pointer (some ⟨r, 0, none⟩), .int .i64 N] w (NuPost W X Q r (numR n s)) := by
  subst hN
  have HT := Lib.hid (rtake_any W w X Q r n s h (by omega) hl)
  have HB := Lib.hid (And.intro (tkR_byt (n := n) h.byt).1 hn)
  unfold numR
  generalize tkR n s = T at *
  obtain ⟨t, st⟩ := T
  dsimp only at *
  clear h hn hl
  go_enter Tryz.func74, Tryz.ntmps74
  go_wp2_with fail
  refine HT.out.mono ?_
  rintro e w2 ⟨v, rfl, hv, hr⟩
  have HS := Lib.hid (rsaid_any w2 _ v n t hv HB.out.1 HB.out.2)
  have F := Lib.hid (show NuPost W X Q r (decB t, st) (.returned (.int .i64 (decB t))) w2 from ⟨rfl, hr⟩)
  obtain ⟨va, vc, rfl⟩ := hv.form
  clear hv hr HT
  generalize decB t = v at *
  go_wp2_with fail
  refine HS.out.mono ?_
  rintro e w3 ⟨rfl, rfl⟩
  go_wp2_with fail
  go_ret
  exact F.out
theorem spR_len {s : RS} {k : Nat} (h : s.1.length ≤ k) : (spR s).2.1.length ≤ k := numR_len (numR_len h)
set_option maxHeartbeats 1000000 in
theorem rrid_any {W w : World} {X Q : Nat → Prop} {r : Nat} {s : RS} (h : RAt W X Q r s w) (hl : s.1.length ≤ 100000) :
    Calls Tryz.prog 75 #[.pointer (some ⟨r, 0, none⟩)] w (StrPost W X Q r (.agg #[.int .i64 (spR s).1.1, .int .i64 (spR s).1.2]) (spR s).2) := by
  have hst : Still w (w.alloc (.cells #[.int .i64 0, .int .i64 0] 28)) := (Still.refl w).alloc _
  have h1 := h.still hst
  have HN := Lib.hid (rnumr_any 1 rfl h1.base (by omega) hl)
  have H := Lib.hid (And.intro h h1)
  have hbx := cellsAt_new w [.int .i64 0, .int .i64 0] 28
  have hbr : w.heap.size ≠ r := by
    obtain ⟨bv, hc, -⟩ := h.b
    have := hc.lt
    omega
  have HK := Lib.hid (fun s' w' (k : RAt (w.alloc (.cells #[.int .i64 0, .int .i64 0] 28)) (fun b => b = r) Q r s' w') => show RAt W X Q r s' w' ∧ cellsAt w' w.heap.size [.int .i64 0, .int .i64 0] from ⟨h1.back k, hbx.only k.only hbr⟩)
  have HZ := Lib.hid h.only.size
  unfold spR
  dsimp only
  generalize hq1 : numR 1 s = q1 at *
  have hl1 : q1.2.1.length ≤ 100000 := by rw [← hq1]; exact numR_len hl
  have HM := Lib.hid (fun w2 (k : RAt (w.alloc (.cells #[.int .i64 0, .int .i64 0] 28)) (fun b => b = r) Q r q1.2 w2) => rnumr_any 1 rfl k (by omega) hl1)
  generalize hq2 : numR 1 q1.2 = q2 at *
  clear h hl hl1 hq1 hq2 h1 hst hbx hbr
  go_enter Tryz.func75, Tryz.ntmps75
  go_wp2_with fail
  refine HN.out.mono ?_
  rintro e w2 ⟨rfl, k2⟩
  have HM2 := Lib.hid (HM.out _ k2)
  clear k2 HM HN
  go_wp2_with fail
  refine HM2.out.mono ?_
  rintro e w3 ⟨rfl, k3⟩
  obtain ⟨h3, hb3⟩ := HK.out _ _ k3
  have c0 := hb3.cell 0
  have f0 := hb3.free 0
  have c1 := hb3.cell 1
  have f1 := hb3.free 1
  have hz := h3.only.size
  have F := Lib.hid (show StrPost W X Q r (.agg #[.int .i64 q1.1, .int .i64 q2.1]) q2.2 (.returned (.agg #[.int .i64 q1.1, .int .i64 q2.1])) ((w3.setCell ⟨w.heap.size, 0, none⟩ (.int .i64 q1.1)).setCell ⟨w.heap.size, 1, none⟩ (.int .i64 q2.1)) from ⟨rfl, (h3.setNew HZ.out _).setNew HZ.out _⟩)
  clear k3 h3 hb3 HM2 HK hz
  go_wp2_with fail
  exact bodyPost_ret (v := .agg #[.int .i64 q1.1, .int .i64 q2.1]) (by simp [results, Tryz.results75, go_sem, c0, c1]) rfl F.out
theorem RAt.mark {W w : World} {X Q : Nat → Prop} {r : Nat} {s : RS} (h : RAt W X Q r s w) (q : Bool) : RAt W X Q r (s.1, q) (w.setCell ⟨r, 1, none⟩ (.bool q)) := by
  have hs := setCell_only w ⟨r, 1, none⟩ (.bool q)
  have hqr : ∀ g, Q g → ¬ g = r := fun g hg e => (h.qx g hg).1 (e ▸ h.rx)
  obtain ⟨bv, h1, h2, h3⟩ := h.b
  exact ⟨h.only.trans (hs.mono fun b e => by rw [show b = r from e]; exact h.rx), h.rx, h.rl, h.qx, ⟨bv, h1.setCell 1 (.bool q), h2.only hs hqr, h3⟩, h.byt⟩
set_option maxHeartbeats 1000000 in
theorem rcell_any {W w : World} {X Q : Nat → Prop} {r : Nat} {s : RS} (h : RAt W X Q r s w) (hl : s.1.length ≤ 100000) :
    Calls Tryz.prog 76 #[.pointer (some ⟨r, 0, none⟩)] w (NwPost W X Q r (fun v w' => Sl w' (fun g => w.heap.size ≤ g) 1 v (imR s).1.length (bc (imR s).1)) (imR s).2) := by
  have HN := Lib.hid (rnumr_any 1 rfl h.base (by omega) hl)
  have hr := numR_range (n := 1) h.byt
  have p1 : (256 : Int) ^ 1 = 256 := rfl
  rw [p1] at hr
  have hl1 : (numR 1 s).2.1.length ≤ 100000 := numR_len hl
  have H := Lib.hid h
  unfold imR
  generalize numR 1 s = q1 at *
  obtain ⟨z, l', sh⟩ := q1
  dsimp only at *
  have HK := Lib.hid (fun w2 (k : RAt w (fun b => b = r) Q r (l', sh) w2) => show w2.cell? ⟨r, 1, none⟩ = some (.bool sh) ∧ w2.frozen? ⟨r, 1, none⟩ = false from by
    obtain ⟨bv, hc, -⟩ := k.b
    exact ⟨hc.cell 1, hc.free 1⟩)
  have hcase : z = 0 ∨ (z = 26 ∧ sh = true) ∨ (z = 26 ∧ sh = false) ∨ (z ≠ 0 ∧ z ≠ 26) := by
    by_cases h0 : z = 0
    · exact .inl h0
    · by_cases h6 : z = 26
      · cases sh
        · exact .inr (.inr (.inl ⟨h6, rfl⟩))
        · exact .inr (.inl ⟨h6, rfl⟩)
      · exact .inr (.inr (.inr ⟨h0, h6⟩))
  rcases hcase with rfl | ⟨rfl, rfl⟩ | ⟨rfl, rfl⟩ | ⟨h0, h6⟩
  · have F := Lib.hid (fun w2 (k : RAt w (fun b => b = r) Q r (l', sh) w2) => show NwPost W X Q r (fun v w' => Sl w' (fun g => w.heap.size ≤ g) 1 v (imT (0, (l', sh))).1.length (bc (imT (0, (l', sh))).1)) (imT (0, (l', sh))).2 (.returned (.slice none 0 0)) w2 from ⟨_, rfl, Sl.nil, H.out.back k⟩)
    clear h hl hr p1 hl1
    go_enter Tryz.func76, Tryz.ntmps76
    go_wp2_with fail
    refine HN.out.mono ?_
    rintro e w2 ⟨rfl, k2⟩
    have F2 := Lib.hid (F.out _ k2)
    clear k2 HN F
    go_wp2_with fail
    go_ret
    exact F2.out
  · have F := Lib.hid (fun w2 (k : RAt w (fun b => b = r) Q r (l', true) w2) => show NwPost W X Q r (fun v w' => Sl w' (fun g => w.heap.size ≤ g) 1 v (imT (26, (l', true))).1.length (bc (imT (26, (l', true))).1)) (imT (26, (l', true))).2 (.returned (.slice none 0 0)) w2 from ⟨_, rfl, Sl.nil, H.out.back k⟩)
    clear h hl hr p1 hl1
    go_enter Tryz.func76, Tryz.ntmps76
    go_wp2_with fail
    refine HN.out.mono ?_
    rintro e w2 ⟨rfl, k2⟩
    have c1 := (HK.out _ k2).1
    have F2 := Lib.hid (F.out _ k2)
    clear k2 HN F
    go_wp2_with fail
    go_ret
    exact F2.out
  · have HT := Lib.hid (fun w2 (k : RAt w (fun b => b = r) Q r (l', false) w2) => rtake_any _ _ _ _ r 26 (l', false) k.base (by omega) hl1)
    have F := Lib.hid (fun w2 w3 v (k : RAt w (fun b => b = r) Q r (l', false) w2) (hv : Sl w3 (fun g => w2.heap.size ≤ g) 1 v 26 (bc (tkR 26 (l', false)).1)) (k3 : RAt w2 (fun b => b = r) Q r (tkR 26 (l', false)).2 w3) => show NwPost W X Q r (fun v w' => Sl w' (fun g => w.heap.size ≤ g) 1 v (imT (26, (l', false))).1.length (bc (imT (26, (l', false))).1)) (imT (26, (l', false))).2 (.returned v) w3 from by
      have e : imT (26, (l', false)) = tkR 26 (l', false) := rfl
      rw [e, tkR_length]
      exact ⟨_, rfl, hv.mono fun g hg => by have := k.only.size; omega, (H.out.back k).back k3⟩)
    clear h hl hr p1 hl1
    go_enter Tryz.func76, Tryz.ntmps76
    go_wp2_with fail
    refine HN.out.mono ?_
    rintro e w2 ⟨rfl, k2⟩
    have c1 := (HK.out _ k2).1
    have HT2 := Lib.hid (HT.out _ k2)
    have F2 := Lib.hid (fun w3 v hv k3 => F.out w2 w3 v k2 hv k3)
    clear k2 HN F HT
    go_wp2_with fail
    refine HT2.out.mono ?_
    rintro e w3 ⟨v, rfl, hv, k3⟩
    have F3 := Lib.hid (F2.out w3 v hv k3)
    obtain ⟨va, vc, rfl⟩ := hv.form
    clear hv k3 F2 HT2
    go_wp2_with fail
    go_ret
    exact F3.out
  · have F := Lib.hid (fun w2 (k : RAt w (fun b => b = r) Q r (l', sh) w2) => show NwPost W X Q r (fun v w' => Sl w' (fun g => w.heap.size ≤ g) 1 v (imT (z, (l', sh))).1.length (bc (imT (z, (l', sh))).1)) (imT (z, (l', sh))).2 (.returned (.slice none 0 0)) (w2.setCell ⟨r, 1, none⟩ (.bool true)) from by
      have e : imT (z, (l', sh)) = ([], (l', true)) := by
        unfold imT
        rw [if_neg h0, if_neg h6]
      rw [e]
      exact ⟨_, rfl, Sl.nil, (H.out.back k).mark true⟩)
    have e0 : (z == 0) = false := by rw [beq_eq_false_iff_ne]; exact h0
    have e6 : (z == 26) = false := by rw [beq_eq_false_iff_ne]; exact h6
    have n0 : (z != 0) = true := by rw [bne_iff_ne]; exact h0
    have n6 : (z != 26) = true := by rw [bne_iff_ne]; exact h6
    clear h hl hr p1 hl1
    go_enter Tryz.func76, Tryz.ntmps76
    go_wp2_with fail
    refine HN.out.mono ?_
    rintro e w2 ⟨rfl, k2⟩
    have c1 := (HK.out _ k2).1
    have f1 := (HK.out _ k2).2
    have F2 := Lib.hid (F.out _ k2)
    clear k2 HN F
    go_wp2_with fail
    go_ret
    exact F2.out
set_option maxHeartbeats 1000000 in
theorem rmany_any {W w : World} {X Q : Nat → Prop} {r : Nat} {s : RS} (h : RAt W X Q r s w) (hl : s.1.length ≤ 100000) :
    Calls Tryz.prog 78 #[.pointer (some ⟨r, 0, none⟩)] w (NuPost W X Q r (((manyR s).1 : Int), (manyR s).2)) := by
  have HN := Lib.hid (rnumr_any 1 rfl h.base (by omega) hl)
  have hr := numR_range (n := 1) h.byt
  have p1 : (256 : Int) ^ 1 = 256 := rfl
  rw [p1] at hr
  have H := Lib.hid h
  unfold manyR
  generalize numR 1 s = q1 at *
  obtain ⟨z, l', sh⟩ := q1
  dsimp only at *
  have HK := Lib.hid (fun w2 (k : RAt w (fun b => b = r) Q r (l', sh) w2) => show w2.cell? ⟨r, 1, none⟩ = some (.bool sh) ∧ w2.frozen? ⟨r, 1, none⟩ = false from by
    obtain ⟨bv, hc, -⟩ := k.b
    exact ⟨hc.cell 1, hc.free 1⟩)
  by_cases hbad : 40 < z ∨ sh = true
  · have F := Lib.hid (fun w2 (k : RAt w (fun b => b = r) Q r (l', sh) w2) => show NuPost W X Q r (((manyT (z, (l', sh))).1 : Int), (manyT (z, (l', sh))).2) (.returned (.int .i64 0)) (w2.setCell ⟨r, 1, none⟩ (.bool true)) from by
      have e : manyT (z, (l', sh)) = (0, (l', true)) := by
        unfold manyT
        rw [if_pos hbad]
      rw [e]
      exact ⟨rfl, (H.out.back k).mark true⟩)
    obtain ⟨q, hq⟩ : ∃ q, decide (40 < z) = q := ⟨_, rfl⟩
    have HQ := Lib.hid (show q = true ∨ sh = true from by
      rcases hbad with h | h
      · left; rw [← hq]; exact decide_eq_true h
      · exact .inr h)
    clear h hl hr p1 hbad
    go_enter Tryz.func78, Tryz.ntmps78
    go_wp2_with fail
    refine HN.out.mono ?_
    rintro e w2 ⟨rfl, k2⟩
    have c1 := (HK.out _ k2).1
    have f1 := (HK.out _ k2).2
    have F2 := Lib.hid (F.out _ k2)
    clear k2 HN F HK
    cases q with
    | true =>
      go_wp2_with fail
      go_ret
      exact F2.out
    | false =>
      have hs : sh = true := by rcases HQ.out with h | h; cases h; exact h
      subst hs
      go_wp2_with fail
      go_ret
      exact F2.out
  · rw [not_or] at hbad
    have hs : sh = false := by simpa using hbad.2
    subst hs
    have d1 : decide (40 < z) = false := decide_eq_false hbad.1
    have F := Lib.hid (fun w2 (k : RAt w (fun b => b = r) Q r (l', false) w2) => show NuPost W X Q r (((manyT (z, (l', false))).1 : Int), (manyT (z, (l', false))).2) (.returned (.int .i64 z)) w2 from by
      have e : manyT (z, (l', false)) = (z.toNat, (l', false)) := by
        unfold manyT
        rw [if_neg (by rintro (h | h); exact hbad.1 h; cases h)]
      rw [e]
      refine ⟨?_, H.out.back k⟩
      simp only
      rw [Int.toNat_of_nonneg hr.1])
    clear h hl hr p1 hbad
    go_enter Tryz.func78, Tryz.ntmps78
    go_wp2_with fail
    refine HN.out.mono ?_
    rintro e w2 ⟨rfl, k2⟩
    have c1 := (HK.out _ k2).1
    have F2 := Lib.hid (F.out _ k2)
    clear k2 HN F HK
    go_wp2_with fail
    go_ret
    exact F2.out
end Go.Proofs.YtojkggppcmdepaaGreat

namespace Go.Proofs.YtojkggppcmdepaaGreat
open Go.RowKit Go.Wh Go.Maps

theorem mvR_len {s : RS} {k : Nat} (h : s.1.length ≤ k) : (mvR s).2.1.length ≤ k := spR_len (spR_len h)
theorem manyR_len {s : RS} {k : Nat} (h : s.1.length ≤ k) : (manyR s).2.1.length ≤ k := by
  have h1 : (numR 1 s).2.1.length ≤ k := numR_len h
  unfold manyR manyT
  split
  · exact h1
  · exact h1
theorem manyR_le (s : RS) (_h : Byt s.1) : (manyR s).1 ≤ 40 := by
  unfold manyR manyT
  split
  · exact Nat.zero_le _
  · rename_i hc
    rw [not_or] at hc
    simp only
    omega
/-- On the way: ls has been read. -/
def Rrmv (W w : World) (X Q : Nat → Prop) (r : Nat) (R : List PMv × RS) (k : Nat) (lv : Value) (wr : World) : Prop :=
  ∃ (ls : List PMv) (s : RS), RAt W X Q r s wr ∧ s.1.length ≤ 100000 ∧ ls.length + k ≤ 255 ∧ (ls ++ (loopS mvR k s).1, (loopS mvR k s).2) = R ∧ Still' w r wr ∧ Vec wr 4 lv ls.length (ls.flatMap mvC) ∧ ∀ g, lv.ownBlock = some g → w.heap.size ≤ g ∧ g < wr.heap.size
set_option maxHeartbeats 2000000 in
set_option maxRecDepth 100000 in
theorem rmoves_any {W w : World} {X Q : Nat → Prop} {r : Nat} {s : RS} (h : RAt W X Q r s w) (hl : s.1.length ≤ 100000) :
    Calls Tryz.prog 77 #[.pointer (some ⟨r, 0, none⟩)] w (NwPost W X Q r (fun v w' => Sl w' (fun g => w.heap.size ≤ g) 4 v (readsR mvR s).1.length ((readsR mvR s).1.flatMap mvC)) (readsR mvR s).2) := by
  have HN := Lib.hid (rmany_any h.base hl)
  have hl1 : (manyR s).2.1.length ≤ 100000 := manyR_len hl
  have hn40 : (manyR s).1 ≤ 40 := manyR_le s h.byt
  have hrl := h.base.rl
  have H := Lib.hid (And.intro h hrl)
  obtain ⟨R, hR⟩ : ∃ R, readsR mvR s = R := ⟨_, rfl⟩
  rw [hR]
  unfold readsR at hR
  generalize manyR s = q1 at *
  obtain ⟨n, q⟩ := q1
  dsimp only at *
  have hnn : n ≤ 255 := by omega
  have HR := Lib.hid (And.intro hR (And.intro hl1 hnn))
  obtain ⟨i0, hi0, hz0, hz1, hz2⟩ := info_parts info_mv
  have HI := Lib.hid (And.intro hi0 (And.intro hz0 (And.intro hz1 hz2)))
  clear h hl hl1 hR hnn hn40 hrl hi0 hz0 hz1 hz2
  go_enter Tryz.func77, Tryz.ntmps77
  go_wp2_with fail
  refine HN.out.mono ?_
  rintro e w2 ⟨rfl, k2⟩
  have HST := Lib.hid (show Rrmv W w X Q r R n (.slice none 0 0) w2 from ⟨[], q, H.out.1.back k2, HR.out.2.1, by simp; exact HR.out.2.2, by rw [← HR.out.1]; rfl, k2.only, Vec.nil _ _, fun g e => by cases e⟩)
  clear HN k2
  go_wp2_with fail
  go_loopw [3, 4] (fun s5 s6 wr => ∃ k : Nat, s6 = .int .i64 k ∧ k ≤ n ∧ Rrmv W w X Q r R k s5 wr) (fun _ s6 _ => (intOf s6).toNat)
  case atStart => exact ⟨n, rfl, Nat.le_refl _, HST.out⟩
  case round =>
    clear HST
    obtain ⟨k, rfl, hk, ls, s', h3, hl3, hlen, hRR, hst, hv, hown⟩ := hrel
    obtain ⟨l', sh⟩ := s'
    dsimp only at hl3
    obtain ⟨bv, hcc, -⟩ := h3.b
    have c1 : wr.cell? ⟨r, 1, none⟩ = some (.bool sh) := hcc.cell 1
    obtain ⟨va, vc, rfl⟩ := hv.form'
    have HH := Lib.hid (And.intro h3 (And.intro hl3 (And.intro hlen (And.intro hRR (And.intro hst (And.intro hv hown))))))
    have hexit : k = 0 ∨ sh = true → NwPost W X Q r (fun v w' => Sl w' (fun g => w.heap.size ≤ g) 4 v R.1.length (R.1.flatMap mvC)) R.2 (.returned (.slice va ls.length vc)) wr := fun hx => by
      have hR2 : R = (ls, (l', sh)) := by
        rw [← hRR]
        rcases hx with rfl | rfl
        · simp [loopS]
        · cases k with
          | zero => simp [loopS]
          | succ k => simp [loopS]
      rw [hR2]
      exact ⟨_, rfl, Vec.sl hv hown, h3⟩
    have HX := Lib.hid hexit
    clear h3 hl3 hlen hRR hst hv hown hcc hexit
    by_cases hi : 0 < k
    rotate_left
    · have hk0 : k = 0 := by omega
      subst hk0
      have b1 : decide ((0 : Int) < ((0 : Nat) : Int)) = false := by decide
      have F := Lib.hid (HX.out (.inl rfl))
      clear HX
      go_wp2_with fail
      go_ret
      exact F.out
    · obtain ⟨k, rfl⟩ : ∃ j, k = j + 1 := ⟨k - 1, by omega⟩
      have b1 : decide ((0 : Int) < ((k + 1 : Nat) : Int)) = true := decide_eq_true (by omega)
      have u9 : IntKind.i64.wrap (((k + 1 : Nat) : Int) - 1) = (k : Int) := by
        have e : ((k + 1 : Nat) : Int) - 1 = (k : Int) := by omega
        rw [e]
        exact IntWalk.i64_in _ (by have := HR.out.2.2; omega)
      cases sh with
      | true =>
        have F := Lib.hid (HX.out (.inr rfl))
        clear HX
        go_wp2_with fail
        go_ret
        exact F.out
      | false =>
        have HC := Lib.hid (rrid_any HH.out.1.base HH.out.2.1)
        have hS1 : ((spR (l', false)).2).1.length ≤ 100000 := spR_len HH.out.2.1
        have hS2 : ((mvR (l', false)).2).1.length ≤ 100000 := mvR_len HH.out.2.1
        have HC2 := Lib.hid (fun (W2 : World) (X2 : Nat → Prop) w4 (k4 : RAt W2 X2 Q r (spR (l', false)).2 w4) => rrid_any k4.base hS1)
        have HLP := Lib.hid (show loopS mvR (k + 1) (l', false) = ((mvR (l', false)).1 :: (loopS mvR k (mvR (l', false)).2).1, (loopS mvR k (mvR (l', false)).2).2) from rfl)
        have hmv : mvR (l', false) = (⟨(spR (l', false)).1.1, (spR (l', false)).1.2, (spR (spR (l', false)).2).1.1, (spR (spR (l', false)).2).1.2⟩, (spR (spR (l', false)).2).2) := rfl
        rw [hmv] at HLP hS2
        generalize spR (l', false) = y1 at *
        obtain ⟨⟨p1, c1'⟩, s1⟩ := y1
        dsimp only at *
        generalize spR s1 = y2 at *
        obtain ⟨⟨p2, c2'⟩, s2⟩ := y2
        dsimp only at *
        obtain ⟨x, hx⟩ : ∃ x : PMv, x = ⟨p1, c1', p2, c2'⟩ := ⟨_, rfl⟩
        obtain ⟨rfl, rfl, rfl, rfl⟩ : p1 = x.fp ∧ c1' = x.fc ∧ p2 = x.tp ∧ c2' = x.tc := by rw [hx]; exact ⟨rfl, rfl, rfl, rfl⟩
        rw [← hx] at HLP
        have HS2 := Lib.hid hS2
        clear hmv hx hS1
        clear HX hS2
        obtain ⟨K, hK⟩ : ∃ K : Int, ((k + 1 : Nat) : Int) = K := ⟨_, rfl⟩
        rw [hK] at b1 u9 ⊢
        have HK := Lib.hid hK
        clear hK hi
        go_wp2_with fail
        refine HC.out.mono ?_
        rintro e w3 ⟨rfl, k3⟩
        have HC4 := Lib.hid (HC2.out _ _ _ k3)
        have HK3 := Lib.hid k3
        clear k3 HC HC2
        go_wp2_with fail
        refine HC4.out.mono ?_
        rintro e w4 ⟨rfl, k4'⟩
        have k4 := HK3.out.back k4'
        have hz4 := k4.only.size
        have HV4 := Lib.hid (HH.out.2.2.2.2.2.1.only k4.only fun g hg e => by have := HH.out.2.2.2.2.2.2 g hg; have := H.out.2; omega)
        have HNX0 := Lib.hid (fun ob v' w' (hv' : Vec w' 4 v' (ls.length + 1) (ls.flatMap mvC ++ [.int .i64 x.fp, .int .i64 x.fc, .int .i64 x.tp, .int .i64 x.tc])) (ho' : Only (fun k => (Value.slice va ls.length vc).ownBlock = some k) (w4.alloc ob) w') (hb' : v'.ownBlock = (Value.slice va ls.length vc).ownBlock ∨ ∃ g, v'.ownBlock = some g ∧ (w4.alloc ob).heap.size ≤ g ∧ g < w'.heap.size) => show Rrmv W w X Q r R k v' w' from by
          have hst : Still w4 (w4.alloc ob) := (Still.refl w4).alloc _
          have hzs := hst.size
          have hzo := ho'.size
          have hzw := HH.out.2.2.2.2.1.size
          have h4 := (HH.out.1.back k4).still hst
          have hrw := H.out.2
          refine ⟨ls ++ [x], s2, ?_, HS2.out, ?_, ?_, ?_, ?_, fun g hg => ?_⟩
          · obtain ⟨bv, e1, e2, e3⟩ := h4.b
            refine ⟨h4.only.andThen ho' fun i hi e => ?_, h4.rx, h4.rl, h4.qx, ⟨bv, e1.only ho' fun e => ?_, e2.only ho' fun g hg e => ?_, e3⟩, h4.byt⟩
            · have := HH.out.2.2.2.2.2.2 i e
              have := H.out.1.only.size
              omega
            · have := HH.out.2.2.2.2.2.2 r e
              omega
            · have := HH.out.2.2.2.2.2.2 g e
              have := (h4.qx g hg).2
              have := H.out.1.only.size
              omega
          · have := HH.out.2.2.1
            rw [List.length_append, List.length_singleton]
            omega
          · have := HH.out.2.2.2.1
            rw [HLP.out] at this
            rw [← this, List.append_assoc]
            rfl
          · exact ((HH.out.2.2.2.2.1.trans k4.only).trans (hst.mono fun _ e => e.elim)).andThen ho' fun i hi e => by have := HH.out.2.2.2.2.2.2 i e; omega
          · rw [List.length_append, List.length_singleton, List.flatMap_append]
            have e : [x].flatMap mvC = [.int .i64 x.fp, .int .i64 x.fc, .int .i64 x.tp, .int .i64 x.tc] := rfl
            rw [e]
            exact hv'
          · rcases hb' with e | ⟨g', e, e1, e2⟩
            · rw [e] at hg
              have := HH.out.2.2.2.2.2.2 g hg
              omega
            · rw [e] at hg
              injection hg with hg
              omega)
        clear k4 k4' hz4 HC4 HK3
        go_wp2_with (at_builtin; refine wpList_append_vec rfl _ _ 29 rfl 119 i0 _ 4 32 Tryz.underlying29 HI.out.1 HI.out.2.1 HI.out.2.2.1 HI.out.2.2.2 rfl (by decide) (.slice va ls.length vc) ls.length (ls.flatMap mvC) (by simp [Act.eval]) (HV4.out.alloc _) (.slice (some ⟨w4.heap.size, 0, none⟩) 1 1) 1 [.int .i64 x.fp, .int .i64 x.fc, .int .i64 x.tp, .int .i64 x.tc] (by simp [Act.eval]) ((cellsAt_new w4 [.int .i64 x.fp, .int .i64 x.fc, .int .i64 x.tp, .int .i64 x.tc] _).reads rfl) (by intro u hu; simp at hu; rcases hu with rfl | rfl | rfl | rfl <;> rfl) (by have := HH.out.2.2.1; simp only [maxLen]; omega) (by have := HH.out.2.2.1; omega) ?_; intro v' w' hv' ho' hb'; have HNX := Lib.hid (HNX0.out _ v' w' hv' ho' hb'); clear hv' ho' hb' HNX0)
        go_roundw
        case rel => exact ⟨k, by rfl, by omega, HNX.out⟩
        case measure => simp [intOf]; have := HK.out; omega
end Go.Proofs.YtojkggppcmdepaaGreat

namespace Go.Proofs.YtojkggppcmdepaaGreat
open Go.RowKit Go.Wh Go.Maps

theorem encB_seq (e : PE) : encB e = (numB 1 e.kind ++ (numB 1 e.txn ++ (numB 2 e.unit ++ (numB 1 e.half ++ (numB 3 e.prev ++ (numB 3 e.next ++ (numsB 1 [e.ap, e.ac] ++ (numsB 1 [e.tp, e.tc] ++ (imB e.old ++ (imB e.new ++ (listB mvB e.moves ++ (numB 1 (e.lives.length : Int) ++ (e.lives.flatMap lvB ++ (numB 1 (e.dirty.length : Int) ++ (e.dirty.flatMap dtB ++ (numB 1 (e.opens.length : Int) ++ (e.opens.flatMap opB ++ ([] : List Int)))))))))))))))))) := by
  unfold encB listB
  simp only [nums1, nums2, List.append_assoc, List.append_nil]
/-- A writer that is new. -/
theorem WrAt.new1 (w : World) (t1 : TypeId) : WrAt (w.alloc (.cells #[.slice none 0 0] t1)) (fun b => b = w.heap.size) w.heap.size [] (.slice none 0 0) (w.alloc (.cells #[.slice none 0 0] t1)) :=
  ⟨Only.refl _ _, rfl, (cellsAt_new w [.slice none 0 0] t1).lt, cellsAt_new w [.slice none 0 0] t1, Vec.nil _ _, (fun g hg => by cases hg), (fun z hz => by cases hz)⟩
section
variable {W w : World} {X Q : Nat → Prop} {r k : Nat} {S T : List Int}
/-- What is left to be written. -/
def LsPost (W : World) (X : Nat → Prop) (r : Nat) (S T : List Int) (k : Nat) (e : Ending) (w' : World) : Prop := e = .returned (.tuple #[]) ∧ LsRel W X r S T k w'
theorem ls_num (z : Int) (n : Nat) (hn : n = 1 ∨ n = 2 ∨ n = 3) {N : Int} (hN : (n : Int) = N) (h : LsRel W X r S (numB n z ++ T) k w) (hz : 0 ≤ z ∧ z ≤ 1000000000) (hk : k ≤ 50000) {k' : Nat} (hk' : k' = k + n) :
    Calls Tryz.prog 55 #[.pointer (some ⟨r, 0, none⟩), .int .i64 z, .int .i64 N] w (LsPost W X r S T k') := by
  obtain ⟨v, pre, h1, h2, h3⟩ := h
  refine (rwnum z n hn hN h1 hz (by omega)).mono ?_
  rintro en w' ⟨he, v', h4⟩
  exact ⟨he, v', _, h4, by rw [List.append_assoc]; exact h2, by rw [List.length_append, numB_length]; omega⟩
theorem ls_rid (p c : Int) (h : LsRel W X r S (numsB 1 [p, c] ++ T) k w) (hp : 0 ≤ p ∧ p ≤ 1000000000) (hc : 0 ≤ c ∧ c ≤ 1000000000) (hk : k ≤ 50000) {k' : Nat} (hk' : k' = k + 2) :
    Calls Tryz.prog 56 #[.pointer (some ⟨r, 0, none⟩), .agg #[.int .i64 p, .int .i64 c]] w (LsPost W X r S T k') := by
  obtain ⟨v, pre, h1, h2, h3⟩ := h
  refine (rwrid p c h1 hp hc (by omega)).mono ?_
  rintro en w' ⟨he, v', h4⟩
  exact ⟨he, v', _, h4, by rw [List.append_assoc]; exact h2, by rw [List.length_append, numsB_length]; simp only [List.length_cons, List.length_nil]; omega⟩
theorem ls_cell {dv : Value} {m : Nat} {l : List Int} (h : LsRel W X r S (imB l ++ T) k w) (hd : Sl W Q 1 dv m (bc l)) (hq : ∀ g, Q g → ¬ X g) (hm : m ≤ 26) (hb : Byt l) (hk : k ≤ 50000) {k' : Nat} (hk' : k' = k + 27) :
    Calls Tryz.prog 57 #[.pointer (some ⟨r, 0, none⟩), dv] w (LsPost W X r S T k') := by
  obtain ⟨v, pre, h1, h2, h3⟩ := h
  have hl : l.length = m := by have := hd.1; rw [bc_length] at this; omega
  refine (rwcell h1 hd hq hm hb (by omega)).mono ?_
  rintro en w' ⟨he, v', h4⟩
  refine ⟨he, v', _, h4, by rw [List.append_assoc]; exact h2, ?_⟩
  unfold imB
  rw [List.length_append, List.length_append, numsB_length]
  simp only [List.length_cons, List.length_nil]
  omega
theorem ls_moves {dv : Value} {m : Nat} {l : List PMv} (h : LsRel W X r S (listB mvB l ++ T) k w) (hd : Sl W Q 4 dv m (l.flatMap mvC)) (hq : ∀ g, Q g → ¬ X g) (hl : l.length = m) (hp : eachB mvMay l = true) (hk : k ≤ 50000) {k' : Nat} (hk' : k' = k + 161) :
    Calls Tryz.prog 58 #[.pointer (some ⟨r, 0, none⟩), dv] w (LsPost W X r S T k') := by
  obtain ⟨v, pre, h1, h2, h3⟩ := h
  refine (rwmoves h1 hd hq hl hp (by omega)).mono ?_
  rintro en w' ⟨he, v', h4⟩
  have := listB_le mvB 4 l hp fun x _ => by simp [mvB, numsB_length]
  exact ⟨he, v', _, h4, by rw [List.append_assoc]; exact h2, by rw [List.length_append]; omega⟩
theorem LsRel.only (h : LsRel W X r S T k w) : Only X W w := by
  obtain ⟨v, pre, h1, -⟩ := h
  exact h1.only
end
set_option maxHeartbeats 20000000 in
set_option maxRecDepth 100000 in
theorem rput_yes (w : World) (Q : Nat → Prop) (e : PE) (ov nv mv lv dv pv : Value) (h : EIs w Q e ov nv mv lv dv pv) (hm : e.may = true) : Calls Tryz.prog 34 #[.agg (eV e ov nv mv lv dv pv)] w (FreshPost w 1 (encB e).length (bc (encB e))) := by
  obtain ⟨oa, oc, na, nc, ma, mc, la, lc, da, dc, pa, pc, rfl, rfl, rfl, rfl, rfl, rfl⟩ := h.forms
  unfold eV
  have hst : Still w (w.alloc (.cells #[.int .i64 e.kind, .int .i64 e.txn, .int .i64 e.unit, .int .i64 e.half, .int .i64 e.prev, .int .i64 e.next, .int .i64 e.ap, .int .i64 e.ac, .int .i64 e.tp, .int .i64 e.tc, .slice oa e.old.length oc, .slice na e.new.length nc, .slice ma e.moves.length mc, .slice la e.lives.length lc, .slice da e.dirty.length dc, .slice pa e.opens.length pc] 34)) := (Still.refl w).alloc _
  have HMY := Lib.hid (rmayE_any _ Q e _ _ _ _ _ _ (h.still hst))
  rw [hm] at HMY
  unfold eV at HMY
  have hbx := cellsAt_new w [.int .i64 e.kind, .int .i64 e.txn, .int .i64 e.unit, .int .i64 e.half, .int .i64 e.prev, .int .i64 e.next, .int .i64 e.ap, .int .i64 e.ac, .int .i64 e.tp, .int .i64 e.tc, .slice oa e.old.length oc, .slice na e.new.length nc, .slice ma e.moves.length mc, .slice la e.lives.length lc, .slice da e.dirty.length dc, .slice pa e.opens.length pc] 34
  have HB := Lib.hid (fun w2 (hs : Still (w.alloc (.cells #[.int .i64 e.kind, .int .i64 e.txn, .int .i64 e.unit, .int .i64 e.half, .int .i64 e.prev, .int .i64 e.next, .int .i64 e.ap, .int .i64 e.ac, .int .i64 e.tp, .int .i64 e.tc, .slice oa e.old.length oc, .slice na e.new.length nc, .slice ma e.moves.length mc, .slice la e.lives.length lc, .slice da e.dirty.length dc, .slice pa e.opens.length pc] 34)) w2) => show cellsAt w2 w.heap.size [.int .i64 e.kind, .int .i64 e.txn, .int .i64 e.unit, .int .i64 e.half, .int .i64 e.prev, .int .i64 e.next, .int .i64 e.ap, .int .i64 e.ac, .int .i64 e.tp, .int .i64 e.tc, .slice oa e.old.length oc, .slice na e.new.length nc, .slice ma e.moves.length mc, .slice la e.lives.length lc, .slice da e.dirty.length dc, .slice pa e.opens.length pc] ∧ EIs w2 (fun g => g < w.heap.size) e (.slice oa e.old.length oc) (.slice na e.new.length nc) (.slice ma e.moves.length mc) (.slice la e.lives.length lc) (.slice da e.dirty.length dc) (.slice pa e.opens.length pc) ∧ Still w w2 from ⟨hbx.only hs fun e => e, h.low.still (hst.trans hs), hst.trans hs⟩)
  have HY := Lib.hid (PE.may_nums hm)
  have HYI := Lib.hid (PE.may_lists hm)
  have HLV := Lib.hid ((eachB_len (PE.may_lists hm).2.2.2.1))
  have HDT := Lib.hid ((eachB_len (PE.may_lists hm).2.2.2.2.1))
  have HOP := Lib.hid ((eachB_len (PE.may_lists hm).2.2.2.2.2))
  clear h hm hst hbx
  go_enter Tryz.func34, Tryz.ntmps34
  go_wp2_with fail
  refine HMY.out.mono ?_
  rintro en w2 ⟨rfl, hs2⟩
  clear HMY
  obtain ⟨hb2, hd2, hs2'⟩ := HB.out _ hs2
  have HB2 := Lib.hid (And.intro hb2 (And.intro hd2 hs2'))
  have hlt2 := hb2.lt
  have HZ2 := Lib.hid hlt2
  clear HB hb2 hd2 hs2 hs2' hlt2
  go_upto_region 4 with fail
  have hW := WrAt.new1 w2 103
  have hWs : Still w2 (w2.alloc (.cells #[.slice none 0 0] 103)) := (Still.refl w2).alloc _
  generalize (w2.alloc (.cells #[.slice none 0 0] 103)) = W at *
  obtain ⟨r, hr⟩ : ∃ r, w2.heap.size = r := ⟨_, rfl⟩
  have HZ := Lib.hid (show w.heap.size < r from by have := HZ2.out; omega)
  rw [hr] at hW
  try rw [hr]
  have HD := Lib.hid (HB2.out.2.1.still hWs)
  have HQ := Lib.hid (fun g (e : g < w.heap.size) => show ¬ g = r by have := HZ.out; omega)
  have hc0 := HB2.out.1.only hWs fun e => e
  have KEEP := Lib.hid (fun w' (ho : Only (fun b => b = r) W w') => show cellsAt w' w.heap.size [.int .i64 e.kind, .int .i64 e.txn, .int .i64 e.unit, .int .i64 e.half, .int .i64 e.prev, .int .i64 e.next, .int .i64 e.ap, .int .i64 e.ac, .int .i64 e.tp, .int .i64 e.tc, .slice oa e.old.length oc, .slice na e.new.length nc, .slice ma e.moves.length mc, .slice la e.lives.length lc, .slice da e.dirty.length dc, .slice pa e.opens.length pc] from hc0.only ho fun e => by have := HZ.out; omega)
  have HWS := Lib.hid (HB2.out.2.2.trans hWs)
  have H0 := Lib.hid (show LsRel W (fun b => b = r) r (encB e) (numB 1 e.kind ++ (numB 1 e.txn ++ (numB 2 e.unit ++ (numB 1 e.half ++ (numB 3 e.prev ++ (numB 3 e.next ++ (numsB 1 [e.ap, e.ac] ++ (numsB 1 [e.tp, e.tc] ++ (imB e.old ++ (imB e.new ++ (listB mvB e.moves ++ (numB 1 (e.lives.length : Int) ++ (e.lives.flatMap lvB ++ (numB 1 (e.dirty.length : Int) ++ (e.dirty.flatMap dtB ++ (numB 1 (e.opens.length : Int) ++ (e.opens.flatMap opB ++ ([] : List Int)))))))))))))))))) 0 W from ⟨_, [], hW, by rw [List.nil_append]; exact (encB_seq e).symm, Nat.le_refl _⟩)
  clear hW hWs hr hc0 HB2 HZ2
  generalize hSS : encB e = SS at *
  have HSS := Lib.hid hSS
  clear hSS
  have hk := KEEP.out _ (Only.refl _ W)
  have d0 : W.cell? ⟨w.heap.size, 0, none⟩ = some (.int .i64 e.kind) := hk.cell 0
  clear hk
  go_wp2_with fail
  refine (ls_num e.kind 1 (.inl rfl) rfl H0.out ⟨by have := HY.out.1; omega, by have := HY.out.2.1; omega⟩ (by omega) rfl).mono ?_
  rintro en w3 ⟨rfl, h3⟩
  have hk := KEEP.out _ h3.only
  clear d0
  have d1 : w3.cell? ⟨w.heap.size, 1, none⟩ = some (.int .i64 e.txn) := hk.cell 1
  have H3 := Lib.hid h3
  clear h3 hk
  go_wp2_with fail
  refine (ls_num e.txn 1 (.inl rfl) rfl H3.out ⟨HY.out.2.2.1.1, by have := HY.out.2.2.1.2; omega⟩ (by omega) rfl).mono ?_
  rintro en w4 ⟨rfl, h4⟩
  have hk := KEEP.out _ h4.only
  clear d1
  have d2 : w4.cell? ⟨w.heap.size, 2, none⟩ = some (.int .i64 e.unit) := hk.cell 2
  have H4 := Lib.hid h4
  clear h4 hk
  go_wp2_with fail
  refine (ls_num e.unit 2 (.inr (.inl rfl)) rfl H4.out ⟨HY.out.2.2.2.2.1.1, by have := HY.out.2.2.2.2.1.2; omega⟩ (by omega) rfl).mono ?_
  rintro en w5 ⟨rfl, h5⟩
  have hk := KEEP.out _ h5.only
  clear d2
  have d3 : w5.cell? ⟨w.heap.size, 3, none⟩ = some (.int .i64 e.half) := hk.cell 3
  have H5 := Lib.hid h5
  clear h5 hk
  go_wp2_with fail
  refine (ls_num e.half 1 (.inl rfl) rfl H5.out ⟨HY.out.2.2.2.1.1, by have := HY.out.2.2.2.1.2; omega⟩ (by omega) rfl).mono ?_
  rintro en w6 ⟨rfl, h6⟩
  have hk := KEEP.out _ h6.only
  clear d3
  have d4 : w6.cell? ⟨w.heap.size, 4, none⟩ = some (.int .i64 e.prev) := hk.cell 4
  have H6 := Lib.hid h6
  clear h6 hk
  go_wp2_with fail
  refine (ls_num e.prev 3 (.inr (.inr rfl)) rfl H6.out ⟨HY.out.2.2.2.2.2.1.1, by have := HY.out.2.2.2.2.2.1.2; omega⟩ (by omega) rfl).mono ?_
  rintro en w7 ⟨rfl, h7⟩
  have hk := KEEP.out _ h7.only
  clear d4
  have d5 : w7.cell? ⟨w.heap.size, 5, none⟩ = some (.int .i64 e.next) := hk.cell 5
  have H7 := Lib.hid h7
  clear h7 hk
  go_wp2_with fail
  refine (ls_num e.next 3 (.inr (.inr rfl)) rfl H7.out ⟨HY.out.2.2.2.2.2.2.1.1, by have := HY.out.2.2.2.2.2.2.1.2; omega⟩ (by omega) rfl).mono ?_
  rintro en w8 ⟨rfl, h8⟩
  have hk := KEEP.out _ h8.only
  clear d5
  have d6 : w8.cell? ⟨w.heap.size, 6, none⟩ = some (.int .i64 e.ap) := hk.cell 6
  have d7 : w8.cell? ⟨w.heap.size, 7, none⟩ = some (.int .i64 e.ac) := hk.cell 7
  have H8 := Lib.hid h8
  clear h8 hk
  go_wp2_with fail
  refine (ls_rid e.ap e.ac H8.out ⟨HY.out.2.2.2.2.2.2.2.1.1, by have := HY.out.2.2.2.2.2.2.2.1.2; omega⟩ ⟨HY.out.2.2.2.2.2.2.2.2.1.1, by have := HY.out.2.2.2.2.2.2.2.2.1.2; omega⟩ (by omega) rfl).mono ?_
  rintro en w9 ⟨rfl, h9⟩
  have hk := KEEP.out _ h9.only
  clear d6 d7
  have d8 : w9.cell? ⟨w.heap.size, 8, none⟩ = some (.int .i64 e.tp) := hk.cell 8
  have d9 : w9.cell? ⟨w.heap.size, 9, none⟩ = some (.int .i64 e.tc) := hk.cell 9
  have H9 := Lib.hid h9
  clear h9 hk
  go_wp2_with fail
  refine (ls_rid e.tp e.tc H9.out ⟨HY.out.2.2.2.2.2.2.2.2.2.1.1, by have := HY.out.2.2.2.2.2.2.2.2.2.1.2; omega⟩ ⟨HY.out.2.2.2.2.2.2.2.2.2.2.1, by have := HY.out.2.2.2.2.2.2.2.2.2.2.2; omega⟩ (by omega) rfl).mono ?_
  rintro en w10 ⟨rfl, h10⟩
  have hk := KEEP.out _ h10.only
  clear d8 d9
  have d10 : w10.cell? ⟨w.heap.size, 10, none⟩ = some (.slice oa e.old.length oc) := hk.cell 10
  have H10 := Lib.hid h10
  clear h10 hk
  go_wp2_with fail
  refine (ls_cell H10.out HD.out.o HQ.out (by have := HYI.out.1; have := HYI.out.2.1; omega) HD.out.bo (by omega) rfl).mono ?_
  rintro en w11 ⟨rfl, h11⟩
  have hk := KEEP.out _ h11.only
  clear d10
  have d11 : w11.cell? ⟨w.heap.size, 11, none⟩ = some (.slice na e.new.length nc) := hk.cell 11
  have H11 := Lib.hid h11
  clear h11 hk
  go_wp2_with fail
  refine (ls_cell H11.out HD.out.n HQ.out (by have := HYI.out.1; have := HYI.out.2.1; omega) HD.out.bn (by omega) rfl).mono ?_
  rintro en w12 ⟨rfl, h12⟩
  have hk := KEEP.out _ h12.only
  clear d11
  have d12 : w12.cell? ⟨w.heap.size, 12, none⟩ = some (.slice ma e.moves.length mc) := hk.cell 12
  have H12 := Lib.hid h12
  clear h12 hk
  go_wp2_with fail
  refine (ls_moves H12.out HD.out.m HQ.out rfl HYI.out.2.2.1 (by omega) rfl).mono ?_
  rintro en w13 ⟨rfl, h13⟩
  have hk := KEEP.out _ h13.only
  clear d12
  have d13 : w13.cell? ⟨w.heap.size, 13, none⟩ = some (.slice la e.lives.length lc) := hk.cell 13
  have H13 := Lib.hid h13
  clear h13 hk
  go_wp2_with fail
  refine (ls_num (e.lives.length : Int) 1 (.inl rfl) rfl H13.out ⟨by omega, by have := HLV.out.1; omega⟩ (by omega) rfl).mono ?_
  rintro en w14 ⟨rfl, h14⟩
  have hk := KEEP.out _ h14.only
  clear d13
  have d13 : w14.cell? ⟨w.heap.size, 13, none⟩ = some (.slice la e.lives.length lc) := hk.cell 13
  have H14 := Lib.hid h14
  clear h14 hk
  obtain ⟨M, hM⟩ : ∃ m, e.lives.length = m := ⟨_, rfl⟩
  have HMM := Lib.hid hM
  rw [hM] at d13
  try rw [hM]
  clear hM
  go_wp2_with fail
  go_loopw [4] (fun s wr => ∃ k : Nat, s = .int .i64 k ∧ k ≤ M ∧ LsRel W (fun b => b = r) r SS ((e.lives.drop k).flatMap lvB ++ (numB 1 (e.dirty.length : Int) ++ (e.dirty.flatMap dtB ++ (numB 1 (e.opens.length : Int) ++ (e.opens.flatMap opB ++ ([] : List Int)))))) (231 + k * 8) wr) (fun s _ => M - (intOf s).toNat)
  case atStart => exact ⟨0, rfl, Nat.zero_le _, H14.out⟩
  obtain ⟨k, rfl, hk, hls⟩ := hrel
  clear d13
  have HR := Lib.hid hls
  have hkk := KEEP.out _ hls.only
  have d13 : wr.cell? ⟨w.heap.size, 13, none⟩ = some (.slice la M lc) := by rw [hkk.cell 13, ← HMM.out]; rfl
  clear hls hkk
  by_cases hi : k < M
  · as_aux_lemma =>
      have b1 : decide ((k : Int) < (M : Int)) = true := decide_eq_true (by omega)
      have b2 : decide (k < M) = true := decide_eq_true hi
      have i0 : (0 : Int) ≤ (k : Int) := by omega
      have i1 : (k : Int) < (M : Int) := by omega
      have hk40 : k < 40 := by have := HLV.out.1; have := HMM.out; omega
      have u9 : IntKind.i64.wrap ((k : Int) + 1) = (k : Int) + 1 := IntWalk.i64_in _ (by omega)
      obtain ⟨x, hx⟩ : ∃ x, e.lives[k]? = some x := ⟨_, List.getElem?_eq_getElem (by have := HMM.out; omega)⟩
      have hxm := HLV.out.2 x (List.mem_of_getElem? hx)
      have hdr : e.lives.drop k = x :: e.lives.drop (k + 1) := by
        rw [List.drop_eq_getElem_cons (show k < e.lives.length by have := HMM.out; omega), show e.lives[k]'(by have := HMM.out; omega) = x from (List.getElem?_eq_some_iff.1 hx).2]
      have HR0 := Lib.hid (show LsRel W (fun b => b = r) r SS (numB 1 x.txn ++ (numB 3 x.last ++ (numB 3 x.next ++ (numB 1 (bitB x.commit) ++ ((e.lives.drop (k + 1)).flatMap lvB ++ (numB 1 (e.dirty.length : Int) ++ (e.dirty.flatMap dtB ++ (numB 1 (e.opens.length : Int) ++ (e.opens.flatMap opB ++ ([] : List Int)))))))))) (231 + k * 8) wr from by
        have h := HR.out
        rw [hdr, List.flatMap_cons] at h
        unfold lvB at h
        simp only [nums1, nums2, List.append_assoc] at h ⊢
        exact h)
      have HCS := Lib.hid (fun w' (ho : Only (fun b => b = r) W w') => show ∀ j u, j < 4 → (lvC x)[j]? = some u → ∀ g o, (Value.slice la M lc) = .slice (some ⟨g, o, none⟩) M lc → w'.cell? ⟨g, o + (k * 4 + j), none⟩ = some u from by
        intro j u hj hu g o hgo
        obtain ⟨g2, o2, c2, hg2, -, -, hcs⟩ := (HD.out.l.only ho HQ.out).pos (by have := HMM.out; omega)
        have e2 := HMM.out
        rw [e2] at hg2
        rw [hg2] at hgo
        cases hgo
        exact hcs (k * 4 + j) u (by rw [flat_get (sz := 4) (fun _ => rfl) e.lives k j x hx hj]; exact hu))
      obtain ⟨g, o, rfl⟩ : ∃ g o, la = some ⟨g, o, none⟩ := by
        obtain ⟨g2, o2, c2, hg2, -⟩ := HD.out.l.pos (by have := HMM.out; omega)
        have hg3 := (Value.slice.inj hg2).1
        exact ⟨g2, o2, hg3⟩
      unfold lvMay at hxm
      simp only [fitsB_cons, Bool.and_eq_true] at hxm
      have e1 : (256 : Int) ^ 1 = 256 := rfl
      have e2 : (256 : Int) ^ 2 = 65536 := rfl
      have e3 : (256 : Int) ^ 3 = 16777216 := rfl
      have HX := Lib.hid (show (0 ≤ x.txn ∧ x.txn ≤ 1000000000) ∧ (0 ≤ x.last ∧ x.last ≤ 1000000000) ∧ (0 ≤ x.next ∧ x.next ≤ 1000000000) from by
        obtain ⟨⟨h1, -⟩, h2, h3, -⟩ := hxm
        refine ⟨⟨by omega, by omega⟩, ⟨by omega, by omega⟩, by omega, by omega⟩)
      have HK := Lib.hid (And.intro hk40 hi)
      clear hk hx hxm hdr e1 e2 e3 HR hk40 hi
      have y0 : wr.cell? ⟨g, o + k * 4, none⟩ = some (.int .i64 x.txn) := by
        exact HCS.out _ HR0.out.only 0 _ (by omega) rfl g o rfl
      go_wp2_with fail
      refine (ls_num x.txn 1 (.inl rfl) rfl HR0.out HX.out.1 (by have := HK.out.1; omega) rfl).mono ?_
      rintro en wx1 ⟨rfl, hx1⟩
      have HS1 := Lib.hid hx1
      have hkk := KEEP.out _ hx1.only
      clear y0 d13
      have d13 : wx1.cell? ⟨w.heap.size, 13, none⟩ = some (.slice (some ⟨g, o, none⟩) M lc) := by rw [hkk.cell 13, ← HMM.out]; rfl
      clear hx1 hkk
      have y1 : wx1.cell? ⟨g, o + k * 4 + 1, none⟩ = some (.int .i64 x.last) := by
        rw [Nat.add_assoc]
        exact HCS.out _ HS1.out.only 1 _ (by omega) rfl g o rfl
      go_wp2_with fail
      refine (ls_num x.last 3 (.inr (.inr rfl)) rfl HS1.out HX.out.2.1 (by have := HK.out.1; omega) rfl).mono ?_
      rintro en wx2 ⟨rfl, hx2⟩
      have HS2 := Lib.hid hx2
      have hkk := KEEP.out _ hx2.only
      clear y1 d13
      have d13 : wx2.cell? ⟨w.heap.size, 13, none⟩ = some (.slice (some ⟨g, o, none⟩) M lc) := by rw [hkk.cell 13, ← HMM.out]; rfl
      clear hx2 hkk
      have y2 : wx2.cell? ⟨g, o + k * 4 + 2, none⟩ = some (.int .i64 x.next) := by
        rw [Nat.add_assoc]
        exact HCS.out _ HS2.out.only 2 _ (by omega) rfl g o rfl
      go_wp2_with fail
      refine (ls_num x.next 3 (.inr (.inr rfl)) rfl HS2.out HX.out.2.2 (by have := HK.out.1; omega) rfl).mono ?_
      rintro en wx3 ⟨rfl, hx3⟩
      have HS3 := Lib.hid hx3
      have hkk := KEEP.out _ hx3.only
      clear y2 d13
      have d13 : wx3.cell? ⟨w.heap.size, 13, none⟩ = some (.slice (some ⟨g, o, none⟩) M lc) := by rw [hkk.cell 13, ← HMM.out]; rfl
      clear hx3 hkk
      have y3 : wx3.cell? ⟨g, o + k * 4 + 3, none⟩ = some (.bool x.commit) := by
        rw [Nat.add_assoc]
        exact HCS.out _ HS3.out.only 3 _ (by omega) rfl g o rfl
      obtain ⟨qb, hqb⟩ : ∃ q, x.commit = q := ⟨_, rfl⟩
      rw [hqb] at y3
      have HQB := Lib.hid hqb
      clear hqb
      have HS3B := Lib.hid HS3.out
      rw [HQB.out] at HS3B
      cases qb
      · go_wp2_with fail
        refine (ls_num 0 1 (.inl rfl) rfl HS3B.out ⟨by omega, by omega⟩ (by have := HK.out.1; omega) rfl).mono ?_
        rintro en wx4 ⟨rfl, hx4⟩
        have HS4 := Lib.hid hx4
        clear hx4
        go_wp2_with fail
        go_roundw
        case rel => exact ⟨k + 1, by go_num, by have := HK.out.2; omega, by have h := HS4.out; rw [show 231 + (k + 1) * 8 = 231 + k * 8 + 1 + 3 + 3 + 1 by omega]; exact h⟩
        case measure => first | (simp [intOf]; done) | (simp [intOf]; have := HK.out.2; omega)
      · go_wp2_with fail
        refine (ls_num 1 1 (.inl rfl) rfl HS3B.out ⟨by omega, by omega⟩ (by have := HK.out.1; omega) rfl).mono ?_
        rintro en wx4 ⟨rfl, hx4⟩
        have HS4 := Lib.hid hx4
        clear hx4
        go_wp2_with fail
        go_roundw
        case rel => exact ⟨k + 1, by go_num, by have := HK.out.2; omega, by have h := HS4.out; rw [show 231 + (k + 1) * 8 = 231 + k * 8 + 1 + 3 + 3 + 1 by omega]; exact h⟩
        case measure => first | (simp [intOf]; done) | (simp [intOf]; have := HK.out.2; omega)
  have b1 : decide ((k : Int) < (M : Int)) = false := decide_eq_false (by omega)
  have b2 : decide (k < M) = false := decide_eq_false hi
  have HE13 := Lib.hid (show LsRel W (fun b => b = r) r SS (numB 1 (e.dirty.length : Int) ++ (e.dirty.flatMap dtB ++ (numB 1 (e.opens.length : Int) ++ (e.opens.flatMap opB ++ ([] : List Int))))) 551 wr from by
    obtain ⟨v, pre, h1, h2, h3⟩ := HR.out
    rw [List.drop_of_length_le (by have := HMM.out; omega)] at h2
    exact ⟨v, pre, h1, h2, by have := HLV.out.1; have := HMM.out; omega⟩)
  have hk2 := KEEP.out _ HE13.out.only
  have d14 : wr.cell? ⟨w.heap.size, 14, none⟩ = some (.slice da e.dirty.length dc) := hk2.cell 14
  clear hk2 hk HR hi
  go_wp2_with fail
  refine (ls_num (e.dirty.length : Int) 1 (.inl rfl) rfl HE13.out ⟨by omega, by have := HDT.out.1; omega⟩ (by omega) rfl).mono ?_
  rintro en wn ⟨rfl, hn⟩
  have HN14 := Lib.hid hn
  have hk3 := KEEP.out _ hn.only
  clear d14
  have d14 : wn.cell? ⟨w.heap.size, 14, none⟩ = some (.slice da e.dirty.length dc) := hk3.cell 14
  clear hn hk3 b1 b2 HMM d13
  obtain ⟨M, hM⟩ : ∃ m, e.dirty.length = m := ⟨_, rfl⟩
  have HMM := Lib.hid hM
  rw [hM] at d14
  try rw [hM]
  clear hM
  go_wp2_with fail
  go_loopw [5] (fun s wr => ∃ k : Nat, s = .int .i64 k ∧ k ≤ M ∧ LsRel W (fun b => b = r) r SS ((e.dirty.drop k).flatMap dtB ++ (numB 1 (e.opens.length : Int) ++ (e.opens.flatMap opB ++ ([] : List Int)))) (552 + k * 4) wr) (fun s _ => M - (intOf s).toNat)
  case atStart => exact ⟨0, rfl, Nat.zero_le _, HN14.out⟩
  obtain ⟨k, rfl, hk, hls⟩ := hrel
  clear d14
  have HR := Lib.hid hls
  have hkk := KEEP.out _ hls.only
  have d14 : wr.cell? ⟨w.heap.size, 14, none⟩ = some (.slice da M dc) := by rw [hkk.cell 14, ← HMM.out]; rfl
  clear hls hkk
  by_cases hi : k < M
  · as_aux_lemma =>
      have b1 : decide ((k : Int) < (M : Int)) = true := decide_eq_true (by omega)
      have b2 : decide (k < M) = true := decide_eq_true hi
      have i0 : (0 : Int) ≤ (k : Int) := by omega
      have i1 : (k : Int) < (M : Int) := by omega
      have hk40 : k < 40 := by have := HDT.out.1; have := HMM.out; omega
      have u9 : IntKind.i64.wrap ((k : Int) + 1) = (k : Int) + 1 := IntWalk.i64_in _ (by omega)
      obtain ⟨x, hx⟩ : ∃ x, e.dirty[k]? = some x := ⟨_, List.getElem?_eq_getElem (by have := HMM.out; omega)⟩
      have hxm := HDT.out.2 x (List.mem_of_getElem? hx)
      have hdr : e.dirty.drop k = x :: e.dirty.drop (k + 1) := by
        rw [List.drop_eq_getElem_cons (show k < e.dirty.length by have := HMM.out; omega), show e.dirty[k]'(by have := HMM.out; omega) = x from (List.getElem?_eq_some_iff.1 hx).2]
      have HR0 := Lib.hid (show LsRel W (fun b => b = r) r SS (numB 1 x.page ++ (numB 3 x.rc ++ ((e.dirty.drop (k + 1)).flatMap dtB ++ (numB 1 (e.opens.length : Int) ++ (e.opens.flatMap opB ++ ([] : List Int)))))) (552 + k * 4) wr from by
        have h := HR.out
        rw [hdr, List.flatMap_cons] at h
        unfold dtB at h
        simp only [nums1, List.append_assoc] at h ⊢
        exact h)
      have HCS := Lib.hid (fun w' (ho : Only (fun b => b = r) W w') => show ∀ j u, j < 2 → (dtC x)[j]? = some u → ∀ g o, (Value.slice da M dc) = .slice (some ⟨g, o, none⟩) M dc → w'.cell? ⟨g, o + (k * 2 + j), none⟩ = some u from by
        intro j u hj hu g o hgo
        obtain ⟨g2, o2, c2, hg2, -, -, hcs⟩ := (HD.out.d.only ho HQ.out).pos (by have := HMM.out; omega)
        have e2 := HMM.out
        rw [e2] at hg2
        rw [hg2] at hgo
        cases hgo
        exact hcs (k * 2 + j) u (by rw [flat_get (sz := 2) (fun _ => rfl) e.dirty k j x hx hj]; exact hu))
      obtain ⟨g, o, rfl⟩ : ∃ g o, da = some ⟨g, o, none⟩ := by
        obtain ⟨g2, o2, c2, hg2, -⟩ := HD.out.d.pos (by have := HMM.out; omega)
        have hg3 := (Value.slice.inj hg2).1
        exact ⟨g2, o2, hg3⟩
      unfold dtMay at hxm
      simp only [fitsB_cons, Bool.and_eq_true] at hxm
      have e1 : (256 : Int) ^ 1 = 256 := rfl
      have e2 : (256 : Int) ^ 2 = 65536 := rfl
      have e3 : (256 : Int) ^ 3 = 16777216 := rfl
      have HX := Lib.hid (show (0 ≤ x.page ∧ x.page ≤ 1000000000) ∧ (0 ≤ x.rc ∧ x.rc ≤ 1000000000) from by
        obtain ⟨⟨h1, -⟩, h2, -⟩ := hxm
        refine ⟨⟨by omega, by omega⟩, by omega, by omega⟩)
      have HK := Lib.hid (And.intro hk40 hi)
      clear hk hx hxm hdr e1 e2 e3 HR hk40 hi
      have y0 : wr.cell? ⟨g, o + k * 2, none⟩ = some (.int .i64 x.page) := by
        exact HCS.out _ HR0.out.only 0 _ (by omega) rfl g o rfl
      go_wp2_with fail
      refine (ls_num x.page 1 (.inl rfl) rfl HR0.out HX.out.1 (by have := HK.out.1; omega) rfl).mono ?_
      rintro en wx1 ⟨rfl, hx1⟩
      have HS1 := Lib.hid hx1
      have hkk := KEEP.out _ hx1.only
      clear y0 d14
      have d14 : wx1.cell? ⟨w.heap.size, 14, none⟩ = some (.slice (some ⟨g, o, none⟩) M dc) := by rw [hkk.cell 14, ← HMM.out]; rfl
      clear hx1 hkk
      have y1 : wx1.cell? ⟨g, o + k * 2 + 1, none⟩ = some (.int .i64 x.rc) := by
        rw [Nat.add_assoc]
        exact HCS.out _ HS1.out.only 1 _ (by omega) rfl g o rfl
      go_wp2_with fail
      refine (ls_num x.rc 3 (.inr (.inr rfl)) rfl HS1.out HX.out.2 (by have := HK.out.1; omega) rfl).mono ?_
      rintro en wx2 ⟨rfl, hx2⟩
      have HS2 := Lib.hid hx2
      have hkk := KEEP.out _ hx2.only
      clear y1 d14
      have d14 : wx2.cell? ⟨w.heap.size, 14, none⟩ = some (.slice (some ⟨g, o, none⟩) M dc) := by rw [hkk.cell 14, ← HMM.out]; rfl
      clear hx2 hkk
      go_wp2_with fail
      go_roundw
      case rel => exact ⟨k + 1, by go_num, by have := HK.out.2; omega, by have h := HS2.out; rw [show 552 + (k + 1) * 4 = 552 + k * 4 + 1 + 3 by omega]; exact h⟩
      case measure => first | (simp [intOf]; done) | (simp [intOf]; have := HK.out.2; omega)
  have b1 : decide ((k : Int) < (M : Int)) = false := decide_eq_false (by omega)
  have b2 : decide (k < M) = false := decide_eq_false hi
  have HE14 := Lib.hid (show LsRel W (fun b => b = r) r SS (numB 1 (e.opens.length : Int) ++ (e.opens.flatMap opB ++ ([] : List Int))) 712 wr from by
    obtain ⟨v, pre, h1, h2, h3⟩ := HR.out
    rw [List.drop_of_length_le (by have := HMM.out; omega)] at h2
    exact ⟨v, pre, h1, h2, by have := HDT.out.1; have := HMM.out; omega⟩)
  have hk2 := KEEP.out _ HE14.out.only
  have d15 : wr.cell? ⟨w.heap.size, 15, none⟩ = some (.slice pa e.opens.length pc) := hk2.cell 15
  clear hk2 hk HR hi
  go_wp2_with fail
  refine (ls_num (e.opens.length : Int) 1 (.inl rfl) rfl HE14.out ⟨by omega, by have := HOP.out.1; omega⟩ (by omega) rfl).mono ?_
  rintro en wn ⟨rfl, hn⟩
  have HN15 := Lib.hid hn
  have hk3 := KEEP.out _ hn.only
  clear d15
  have d15 : wn.cell? ⟨w.heap.size, 15, none⟩ = some (.slice pa e.opens.length pc) := hk3.cell 15
  clear hn hk3 b1 b2 HMM d14
  obtain ⟨M, hM⟩ : ∃ m, e.opens.length = m := ⟨_, rfl⟩
  have HMM := Lib.hid hM
  rw [hM] at d15
  try rw [hM]
  clear hM
  go_wp2_with fail
  go_loopw [6] (fun s wr => ∃ k : Nat, s = .int .i64 k ∧ k ≤ M ∧ LsRel W (fun b => b = r) r SS ((e.opens.drop k).flatMap opB ++ ([] : List Int)) (713 + k * 164) wr) (fun s _ => M - (intOf s).toNat)
  case atStart => exact ⟨0, rfl, Nat.zero_le _, HN15.out⟩
  obtain ⟨k, rfl, hk, hls⟩ := hrel
  clear d15
  have HR := Lib.hid hls
  have hkk := KEEP.out _ hls.only
  have d15 : wr.cell? ⟨w.heap.size, 15, none⟩ = some (.slice pa M pc) := by rw [hkk.cell 15, ← HMM.out]; rfl
  clear hls hkk
  by_cases hi : k < M
  · as_aux_lemma =>
      have b1 : decide ((k : Int) < (M : Int)) = true := decide_eq_true (by omega)
      have b2 : decide (k < M) = true := decide_eq_true hi
      have i0 : (0 : Int) ≤ (k : Int) := by omega
      have i1 : (k : Int) < (M : Int) := by omega
      have hk40 : k < 40 := by have := HOP.out.1; have := HMM.out; omega
      have u9 : IntKind.i64.wrap ((k : Int) + 1) = (k : Int) + 1 := IntWalk.i64_in _ (by omega)
      obtain ⟨x, hx⟩ : ∃ x, e.opens[k]? = some x := ⟨_, List.getElem?_eq_getElem (by have := HMM.out; omega)⟩
      have hxm := HOP.out.2 x (List.mem_of_getElem? hx)
      have hdr : e.opens.drop k = x :: e.opens.drop (k + 1) := by
        rw [List.drop_eq_getElem_cons (show k < e.opens.length by have := HMM.out; omega), show e.opens[k]'(by have := HMM.out; omega) = x from (List.getElem?_eq_some_iff.1 hx).2]
      have HR0 := Lib.hid (show LsRel W (fun b => b = r) r SS (numB 2 x.unit ++ (numB 1 x.done ++ (listB mvB x.moves ++ ((e.opens.drop (k + 1)).flatMap opB ++ ([] : List Int))))) (713 + k * 164) wr from by
        have h := HR.out
        rw [hdr, List.flatMap_cons] at h
        unfold opB at h
        simp only [nums1, List.append_assoc] at h ⊢
        exact h)
      obtain ⟨mvs, hm1, hm2, hm3⟩ := HD.out.p
      obtain ⟨mw, hmx⟩ : ∃ mv, mvs[k]? = some mv := ⟨_, List.getElem?_eq_getElem (by have := HMM.out; omega)⟩
      have HMV := Lib.hid (hm3 k x mw hx hmx)
      obtain ⟨xa, xc, rfl⟩ := HMV.out.form
      have HCS := Lib.hid (fun w' (ho : Only (fun b => b = r) W w') => show ∀ j u, j < 3 → (opC (x, .slice xa x.moves.length xc))[j]? = some u → ∀ g o, (Value.slice pa M pc) = .slice (some ⟨g, o, none⟩) M pc → w'.cell? ⟨g, o + (k * 3 + j), none⟩ = some u from by
        intro j u hj hu g o hgo
        obtain ⟨g2, o2, c2, hg2, -, -, hcs⟩ := (hm2.only ho HQ.out).pos (by have := HMM.out; omega)
        have e2 := HMM.out
        rw [e2] at hg2
        rw [hg2] at hgo
        cases hgo
        exact hcs (k * 3 + j) u (by rw [flat_get (sz := 3) (fun _ => rfl) (e.opens.zip mvs) k j (x, _) (by rw [List.getElem?_zip_eq_some]; exact ⟨hx, hmx⟩) hj]; exact hu))
      obtain ⟨g, o, rfl⟩ : ∃ g o, pa = some ⟨g, o, none⟩ := by
        obtain ⟨g2, o2, c2, hg2, -⟩ := hm2.pos (by have := HMM.out; omega)
        have hg3 := (Value.slice.inj hg2).1
        exact ⟨g2, o2, hg3⟩
      clear hm1 hm2 hm3 hmx
      unfold opMay at hxm
      simp only [fitsB_cons, Bool.and_eq_true] at hxm
      have e1 : (256 : Int) ^ 1 = 256 := rfl
      have e2 : (256 : Int) ^ 2 = 65536 := rfl
      have e3 : (256 : Int) ^ 3 = 16777216 := rfl
      have HX := Lib.hid (show (0 ≤ x.unit ∧ x.unit ≤ 1000000000) ∧ (0 ≤ x.done ∧ x.done ≤ 1000000000) ∧ eachB mvMay x.moves = true from by
        obtain ⟨⟨⟨h1, -⟩, h2, -⟩, h3⟩ := hxm
        refine ⟨⟨by omega, by omega⟩, ⟨by omega, by omega⟩, h3⟩)
      have HK := Lib.hid (And.intro hk40 hi)
      clear hk hx hxm hdr e1 e2 e3 HR hk40 hi
      have y0 : wr.cell? ⟨g, o + k * 3, none⟩ = some (.int .i64 x.unit) := by
        exact HCS.out _ HR0.out.only 0 _ (by omega) rfl g o rfl
      go_wp2_with fail
      refine (ls_num x.unit 2 (.inr (.inl rfl)) rfl HR0.out HX.out.1 (by have := HK.out.1; omega) rfl).mono ?_
      rintro en wx1 ⟨rfl, hx1⟩
      have HS1 := Lib.hid hx1
      have hkk := KEEP.out _ hx1.only
      clear y0 d15
      have d15 : wx1.cell? ⟨w.heap.size, 15, none⟩ = some (.slice (some ⟨g, o, none⟩) M pc) := by rw [hkk.cell 15, ← HMM.out]; rfl
      clear hx1 hkk
      have y2 : wx1.cell? ⟨g, o + k * 3 + 2, none⟩ = some (.int .i64 x.done) := by
        rw [Nat.add_assoc]
        exact HCS.out _ HS1.out.only 2 _ (by omega) rfl g o rfl
      go_wp2_with fail
      refine (ls_num x.done 1 (.inl rfl) rfl HS1.out HX.out.2.1 (by have := HK.out.1; omega) rfl).mono ?_
      rintro en wx2 ⟨rfl, hx2⟩
      have HS2 := Lib.hid hx2
      have hkk := KEEP.out _ hx2.only
      clear y2 d15
      have d15 : wx2.cell? ⟨w.heap.size, 15, none⟩ = some (.slice (some ⟨g, o, none⟩) M pc) := by rw [hkk.cell 15, ← HMM.out]; rfl
      clear hx2 hkk
      have y1 : wx2.cell? ⟨g, o + k * 3 + 1, none⟩ = some (.slice xa x.moves.length xc) := by
        rw [Nat.add_assoc]
        exact HCS.out _ HS2.out.only 1 _ (by omega) rfl g o rfl
      go_wp2_with fail
      refine (ls_moves HS2.out HMV.out HQ.out rfl HX.out.2.2 (by have := HK.out.1; omega) rfl).mono ?_
      rintro en wx3 ⟨rfl, hx3⟩
      have HS3 := Lib.hid hx3
      clear hx3 y1
      go_wp2_with fail
      go_roundw
      case rel => exact ⟨k + 1, by go_num, by have := HK.out.2; omega, by have h := HS3.out; rw [show 713 + (k + 1) * 164 = 713 + k * 164 + 2 + 1 + 161 by omega]; exact h⟩
      case measure => first | (simp [intOf]; done) | (simp [intOf]; have := HK.out.2; omega)
  have b1 : decide ((k : Int) < (M : Int)) = false := decide_eq_false (by omega)
  have b2 : decide (k < M) = false := decide_eq_false hi
  have HE15 := Lib.hid (show LsRel W (fun b => b = r) r SS ([] : List Int) 7273 wr from by
    obtain ⟨v, pre, h1, h2, h3⟩ := HR.out
    rw [List.drop_of_length_le (by have := HMM.out; omega)] at h2
    exact ⟨v, pre, h1, h2, by have := HOP.out.1; have := HMM.out; omega⟩)
  have hk2 := KEEP.out _ HE15.out.only
  clear hk2 hk HR hi
  obtain ⟨v14, pre, hh, hpre, -⟩ := HE15.out
  rw [List.append_nil] at hpre
  subst hpre
  generalize hL : pre.length = L at *
  obtain ⟨va, vc, hv⟩ : ∃ va vc, v14 = .slice va L vc := by
    obtain ⟨va, vc, hv⟩ := hh.vec.form'
    exact ⟨va, vc, by rw [hv, hL]⟩
  have cr : wr.cell? ⟨r, 0, none⟩ = some v14 := hh.cells.cell 0
  have F := Lib.hid (show FreshPost w 1 L (bc pre) (.returned v14) wr from by
    have hzz := HWS.out.size
    have hzr := HZ.out
    have hrl := hh.rl
    have ho := HWS.out.andThen hh.only fun i hi e => by have e' : i = r := e; omega
    refine ⟨_, rfl, ?_, ho.below (Nat.le_refl _) (fun i hi e => e), fun g hg => ?_⟩
    · rw [← hL]
      exact hh.vec
    · have := hh.own g hg
      rcases this.1 with e | e
      · exact absurd e this.2.1
      · exact ⟨by omega, this.2.2⟩)
  subst hv
  have HLL := Lib.hid hL
  clear hh hL
  go_wp2_with fail
  go_ret
  exact F.out
set_option maxHeartbeats 1000000 in
set_option maxRecDepth 100000 in
theorem rput_no (w : World) (Q : Nat → Prop) (e : PE) (ov nv mv lv dv pv : Value) (h : EIs w Q e ov nv mv lv dv pv) (hm : e.may = false) : Calls Tryz.prog 34 #[.agg (eV e ov nv mv lv dv pv)] w (FreshPost w 1 0 []) := by
  obtain ⟨oa, oc, na, nc, ma, mc, la, lc, da, dc, pa, pc, rfl, rfl, rfl, rfl, rfl, rfl⟩ := h.forms
  unfold eV
  have hst : Still w (w.alloc (.cells #[.int .i64 e.kind, .int .i64 e.txn, .int .i64 e.unit, .int .i64 e.half, .int .i64 e.prev, .int .i64 e.next, .int .i64 e.ap, .int .i64 e.ac, .int .i64 e.tp, .int .i64 e.tc, .slice oa e.old.length oc, .slice na e.new.length nc, .slice ma e.moves.length mc, .slice la e.lives.length lc, .slice da e.dirty.length dc, .slice pa e.opens.length pc] 34)) := (Still.refl w).alloc _
  have HMY := Lib.hid (rmayE_any _ Q e _ _ _ _ _ _ (h.still hst))
  rw [hm] at HMY
  unfold eV at HMY
  have F := Lib.hid (fun w' (hs : Still (w.alloc (.cells #[.int .i64 e.kind, .int .i64 e.txn, .int .i64 e.unit, .int .i64 e.half, .int .i64 e.prev, .int .i64 e.next, .int .i64 e.ap, .int .i64 e.ac, .int .i64 e.tp, .int .i64 e.tc, .slice oa e.old.length oc, .slice na e.new.length nc, .slice ma e.moves.length mc, .slice la e.lives.length lc, .slice da e.dirty.length dc, .slice pa e.opens.length pc] 34)) w') => show FreshPost w 1 0 [] (.returned (.slice none 0 0)) w' from ⟨_, rfl, Vec.nil _ _, (hst.trans hs).below (Nat.le_refl _) (fun _ _ e => e), fun g hg => by cases hg⟩)
  clear h hm hst
  go_enter Tryz.func34, Tryz.ntmps34
  go_wp2_with fail
  refine HMY.out.mono ?_
  rintro en w2 ⟨rfl, hs2⟩
  have F2 := Lib.hid (F.out _ hs2)
  clear hs2 F
  go_wp2_with fail
  go_ret
  exact F2.out
theorem rput_any (w : World) (Q : Nat → Prop) (e : PE) (ov nv mv lv dv pv : Value) (h : EIs w Q e ov nv mv lv dv pv) : Calls Tryz.prog 34 #[.agg (eV e ov nv mv lv dv pv)] w (FreshPost w 1 (putB e).length (bc (putB e))) := by
  unfold putB
  cases hm : e.may with
  | true => exact rput_yes w Q e ov nv mv lv dv pv h hm
  | false => exact rput_no w Q e ov nv mv lv dv pv h hm
end Go.Proofs.YtojkggppcmdepaaGreat

namespace Go.Proofs.YtojkggppcmdepaaGreat
open Go.RowKit Go.Wh Go.Maps

theorem fr_nums {p : Int} (h : 0 ≤ p ∧ p ≤ 255) : IntKind.i64.wrap p = p ∧ wrap64 p = p ∧ IntKind.u8.wrap p = p ∧ p % 256 = p :=
  ⟨IntWalk.i64_in _ (by omega), IntWalk.wrap64_in _ (by omega), IntWalk.u8_in _ (by omega), by omega⟩
theorem fr_len (n : Nat) (h : n ≤ 8000) : 2 + n ≤ maxLen ∧ (2 + n) * 1 ≤ 140737488355328 ∧ 2 + n + 2 ≤ maxLen ∧ (2 + n + 2) * 1 ≤ 140737488355328 := by
  simp only [maxLen]
  omega
theorem cellsAt.vec1 {w : World} {r n : Nat} {l : List Value} (h : cellsAt w r l) (hl : l.length = n) (hn : n ≤ maxLen) : Vec w 1 (.slice (some ⟨r, 0, none⟩) n n) n l := by
  obtain ⟨t, h⟩ := h
  have := vec_block (size := 1) (n := n) h (by simp; omega) hn
  simpa using this
set_option maxHeartbeats 4000000 in
set_option maxRecDepth 100000 in
theorem rframe_yes (w : World) (Q : Nat → Prop) (e : PE) (ov nv mv lv dv pv : Value) (h : EIs w Q e ov nv mv lv dv pv) (hm : e.may = true) : Calls Tryz.prog 9 #[.agg (eV e ov nv mv lv dv pv)] w (FreshPost w 1 (frameB e).length (bc (frameB e))) := by
  have hby := encB_byt e h.bo h.bn
  obtain ⟨oa, oc, na, nc, ma, mc, la, lc, da, dc, pa, pc, rfl, rfl, rfl, rfl, rfl, rfl⟩ := h.forms
  unfold eV
  have hst : Still w (w.alloc (.cells #[.int .i64 e.kind, .int .i64 e.txn, .int .i64 e.unit, .int .i64 e.half, .int .i64 e.prev, .int .i64 e.next, .int .i64 e.ap, .int .i64 e.ac, .int .i64 e.tp, .int .i64 e.tc, .slice oa e.old.length oc, .slice na e.new.length nc, .slice ma e.moves.length mc, .slice la e.lives.length lc, .slice da e.dirty.length dc, .slice pa e.opens.length pc] 34)) := (Still.refl w).alloc _
  have HPU := Lib.hid (rput_yes _ Q e _ _ _ _ _ _ (h.still hst) hm)
  unfold eV at HPU
  have HST := Lib.hid hst
  have hle := encB_le e hm
  have hfl := frameB_length e
  have hfe : frameB e = [((encB e).length : Int) / 256, ((encB e).length : Int) % 256] ++ encB e ++ [(sumB (encB e) (0, 0)).1, (sumB (encB e) (0, 0)).2] := by
    unfold frameB chkB
    rw [numsB2]
    congr 3
    omega
  have hsr := sumB_range (encB e) (0, 0) (by decide) (by decide)
  rw [hfl, hfe]
  generalize encB e = b at *
  obtain ⟨n, hn⟩ : ∃ n, b.length = n := ⟨_, rfl⟩
  rw [hn] at HPU hle ⊢
  obtain ⟨x, hx⟩ : ∃ x, (sumB b (0, 0)).1 = x := ⟨_, rfl⟩
  obtain ⟨y, hy⟩ : ∃ y, (sumB b (0, 0)).2 = y := ⟨_, rfl⟩
  have HSM := Lib.hid (fun w' a c (hsl : Sl w' (fun _ => True) 1 (.slice a n c) n (bc b)) => rsums w' (fun _ => True) a n c b hsl hby (by omega))
  rw [hx, hy] at hsr HSM ⊢
  have HX := Lib.hid (fr_nums (p := x) (by omega))
  have HY := Lib.hid (fr_nums (p := y) (by omega))
  have HP0 := Lib.hid (fr_nums (p := (n : Int) / 256) (by omega))
  have HQ0 := Lib.hid (fr_nums (p := (n : Int) % 256) (by omega))
  have HT := Lib.hid (show (n : Int).tdiv 256 = (n : Int) / 256 ∧ (n : Int).tmod 256 = (n : Int) % 256 from ⟨Int.tdiv_eq_ediv_of_nonneg (by omega), Int.tmod_eq_emod_of_nonneg (by omega)⟩)
  have hd0 : ((n : Int) == 0) = false ∧ (n == 0) = false := ⟨by simp; omega, by simp; omega⟩
  have HD0 := Lib.hid hd0
  obtain ⟨i0, hi0, hz0, hz1, hz2⟩ := info_parts info_b
  have HI := Lib.hid (And.intro hi0 (And.intro hz0 (And.intro hz1 hz2)))
  have HN := Lib.hid (And.intro hle hn)
  have HBY := Lib.hid hby
  obtain ⟨p, hp⟩ : ∃ p, (n : Int) / 256 = p := ⟨_, rfl⟩
  obtain ⟨q, hq⟩ : ∃ q, (n : Int) % 256 = q := ⟨_, rfl⟩
  rw [hp] at HT HP0 ⊢
  rw [hq] at HT HQ0 ⊢
  clear h hm hst hby hle hfl hfe hsr hn hx hy hi0 hz0 hz1 hz2 hp hq hd0
  have t1 := HT.out.1
  have t2 := HT.out.2
  obtain ⟨u1, u2, u3, u4⟩ := HP0.out
  obtain ⟨v1, v2, v3, v4⟩ := HQ0.out
  obtain ⟨x1, x2, x3, x4⟩ := HX.out
  obtain ⟨y1, y2, y3, y4⟩ := HY.out
  obtain ⟨d0, d1⟩ := HD0.out
  have HL1 := Lib.hid (show 2 + n ≤ maxLen ∧ (2 + n) * 1 ≤ 140737488355328 ∧ 2 + n + 2 ≤ maxLen ∧ (2 + n + 2) * 1 ≤ 140737488355328 from fr_len n HN.out.1.2)
  go_enter Tryz.func9, Tryz.ntmps9
  go_wp2_with fail
  refine HPU.out.mono ?_
  rintro en w2 ⟨pv, rfl, hpv, hpb, hpo⟩
  obtain ⟨pa', pc', rfl⟩ := hpv.form'
  have HP := Lib.hid (And.intro hpv (And.intro (HST.out.trans (Only.ofBelow hpb)) (fun g hg => hpo g hg)))
  have HS2 := Lib.hid (HSM.out w2 pa' pc' (Vec.sl0 hpv (by omega)))
  clear hpv hpb hpo HPU HSM
  go_wp2_with fail
  refine HS2.out.mono ?_
  rintro en w3 ⟨rfl, rfl⟩
  have HA1 := Lib.hid (fun tt => cellsAt_new w3 (bc [p, q]) tt)
  have HP1 := Lib.hid (fun ob => Reads.still HP.out.1.reads ((Still.refl w3).alloc ob))
  go_wp2_with (at_builtin; first
    | (refine wpList_append_vec rfl _ _ 23 rfl 5 i0 _ 1 1 Tryz.underlying23 HI.out.1 HI.out.2.1 HI.out.2.2.1 HI.out.2.2.2 rfl (by decide) (.slice (some ⟨w3.heap.size, 0, none⟩) 2 2) 2 (bc [p, q]) (by simp [Act.eval]) (cellsAt.vec1 (HA1.out _) rfl (by decide)) (.slice pa' n pc') n (bc b) (by simp [Act.eval]) (HP1.out _) (bc_one _) HL1.out.1 HL1.out.2.1 ?_; intro v4 w4 hv4 ho4 hb4; obtain ⟨va4, vc4, rfl⟩ := hv4.form'; have H4 := Lib.hid (And.intro hv4 (And.intro ho4 hb4)); clear hv4 ho4 hb4; have HA2 := Lib.hid (fun tt => cellsAt_new w4 (bc [x, y]) tt))
    | (refine wpList_append_vec rfl _ _ 23 rfl 5 i0 _ 1 1 Tryz.underlying23 HI.out.1 HI.out.2.1 HI.out.2.2.1 HI.out.2.2.2 rfl (by decide) (.slice va4 (2 + n) vc4) (2 + n) (bc [p, q] ++ bc b) (by simp [Act.eval]) (H4.out.1.alloc _) (.slice (some ⟨w4.heap.size, 0, none⟩) 2 2) 2 (bc [x, y]) (by simp [Act.eval]) (cellsAt.reads (HA2.out _) rfl) (bc_one _) HL1.out.2.2.1 HL1.out.2.2.2 ?_; intro v5 w5 hv5 ho5 hb5; obtain ⟨va5, vc5, rfl⟩ := hv5.form'; have H5 := Lib.hid (And.intro hv5 (And.intro ho5 hb5)); clear hv5 ho5 hb5))
  clear t1 t2 u1 u2 u3 u4 v1 v2 v3 v4 x1 x2 x3 x4 y1 y2 y3 y4 d0 d1
  have F := Lib.hid (show FreshPost w 1 (4 + n) (bc ([p, q] ++ b ++ [x, y])) (.returned (.slice va5 (2 + n + 2) vc5)) w5 from by
    obtain ⟨hv4, ho4, hb4⟩ := H4.out
    obtain ⟨hv5, ho5, hb5⟩ := H5.out
    have hs3 := HP.out.2.1
    have g4 := append_fresh (a := w) (hs3.alloc _) (fun g hg => by have e' : w3.heap.size = g := Option.some.inj hg; have := hs3.size; simp; omega) ho4 hb4
    have g5 := append_fresh (a := w) (g4.1.alloc _) (fun g hg => ⟨(g4.2 g hg).1, by have := (g4.2 g hg).2; simp; omega⟩) ho5 hb5
    refine ⟨_, rfl, ?_, g5.1.below (Nat.le_refl _) (fun i hi e => e), g5.2⟩
    rw [show 4 + n = 2 + n + 2 by omega, bc_append, bc_append]
    exact hv5)
  rw [show 4 + n = 2 + n + 2 by omega] at F ⊢
  clear H4 H5
  go_wp2_with fail
  go_ret
  exact F.out
set_option maxHeartbeats 1000000 in
set_option maxRecDepth 100000 in
theorem rframe_no (w : World) (Q : Nat → Prop) (e : PE) (ov nv mv lv dv pv : Value) (h : EIs w Q e ov nv mv lv dv pv) (hm : e.may = false) : Calls Tryz.prog 9 #[.agg (eV e ov nv mv lv dv pv)] w (FreshPost w 1 0 []) := by
  obtain ⟨oa, oc, na, nc, ma, mc, la, lc, da, dc, pa, pc, rfl, rfl, rfl, rfl, rfl, rfl⟩ := h.forms
  unfold eV
  have hst : Still w (w.alloc (.cells #[.int .i64 e.kind, .int .i64 e.txn, .int .i64 e.unit, .int .i64 e.half, .int .i64 e.prev, .int .i64 e.next, .int .i64 e.ap, .int .i64 e.ac, .int .i64 e.tp, .int .i64 e.tc, .slice oa e.old.length oc, .slice na e.new.length nc, .slice ma e.moves.length mc, .slice la e.lives.length lc, .slice da e.dirty.length dc, .slice pa e.opens.length pc] 34)) := (Still.refl w).alloc _
  have HPU := Lib.hid (rput_no _ Q e _ _ _ _ _ _ (h.still hst) hm)
  unfold eV at HPU
  have F := Lib.hid (fun w' (hs : Still (w.alloc (.cells #[.int .i64 e.kind, .int .i64 e.txn, .int .i64 e.unit, .int .i64 e.half, .int .i64 e.prev, .int .i64 e.next, .int .i64 e.ap, .int .i64 e.ac, .int .i64 e.tp, .int .i64 e.tc, .slice oa e.old.length oc, .slice na e.new.length nc, .slice ma e.moves.length mc, .slice la e.lives.length lc, .slice da e.dirty.length dc, .slice pa e.opens.length pc] 34)) w') => show FreshPost w 1 0 [] (.returned (.slice none 0 0)) w' from ⟨_, rfl, Vec.nil _ _, (hst.trans hs).below (Nat.le_refl _) (fun _ _ e => e), fun g hg => by cases hg⟩)
  clear h hm hst
  go_enter Tryz.func9, Tryz.ntmps9
  go_wp2_with fail
  refine HPU.out.mono ?_
  rintro en w2 ⟨pv, rfl, hpv, hpb, hpo⟩
  obtain ⟨pa', pc', rfl⟩ := hpv.form'
  have F2 := Lib.hid (F.out _ (Only.ofBelow hpb))
  clear hpv hpb hpo HPU F
  go_wp2_with fail
  go_ret
  exact F2.out
theorem rframe_any (w : World) (Q : Nat → Prop) (e : PE) (ov nv mv lv dv pv : Value) (h : EIs w Q e ov nv mv lv dv pv) : Calls Tryz.prog 9 #[.agg (eV e ov nv mv lv dv pv)] w (FreshPost w 1 (frB e).length (bc (frB e))) := by
  unfold frB
  cases hm : e.may with
  | true => exact rframe_yes w Q e ov nv mv lv dv pv h hm
  | false => exact rframe_no w Q e ov nv mv lv dv pv h hm
end Go.Proofs.YtojkggppcmdepaaGreat
