/- The document's reader of entries, plain: it takes the same entries as the program's. No program. No conditions. The document's reader of bytes: some bytes, a number, a place, a cell, how many. Conditions: it lies in memory, apart from its bytes. The document's reader of bytes: moves. Conditions: it lies in memory, apart from its bytes. -/
import Derived.Test.YtojkggppcmdepaaGreatQa13
namespace Go.Proofs.YtojkggppcmdepaaGreat

def tkR (n : Nat) (s : RS) : List Int × RS := if s.2 = true ∨ s.1.length < n then (List.replicate n 0, (s.1, true)) else (s.1.take n, (s.1.drop n, s.2))
def numR (n : Nat) (s : RS) : Int × RS := (decB (tkR n s).1, (tkR n s).2)
def spR (s : RS) : (Int × Int) × RS := (((numR 1 s).1, (numR 1 (numR 1 s).2).1), (numR 1 (numR 1 s).2).2)
def imT (a : Int × RS) : List Int × RS := if a.1 = 0 then ([], a.2) else if a.1 = 26 then (if a.2.2 = true then ([], a.2) else tkR 26 a.2) else ([], (a.2.1, true))
def imR (s : RS) : List Int × RS := imT (numR 1 s)
def manyT (a : Int × RS) : Nat × RS := if 40 < a.1 ∨ a.2.2 = true then (0, (a.2.1, true)) else (a.1.toNat, a.2)
def manyR (s : RS) : Nat × RS := manyT (numR 1 s)
def readsR {α : Type} (f : RS → α × RS) (s : RS) : List α × RS := loopS f (manyR s).1 (manyR s).2
def mvR (s : RS) : PMv × RS := (⟨(spR s).1.1, (spR s).1.2, (spR (spR s).2).1.1, (spR (spR s).2).1.2⟩, (spR (spR s).2).2)
def lvT (a b c d : Int × RS) : PLv × RS := (⟨a.1, b.1, c.1, d.1 == 1⟩, (d.2.1, d.2.2 || decide (1 < d.1)))
def lvR (s : RS) : PLv × RS := lvT (numR 1 s) (numR 3 (numR 1 s).2) (numR 3 (numR 3 (numR 1 s).2).2) (numR 1 (numR 3 (numR 3 (numR 1 s).2).2).2)
def dtR (s : RS) : PDt × RS := (⟨(numR 1 s).1, (numR 3 (numR 1 s).2).1⟩, (numR 3 (numR 1 s).2).2)
def opR (s : RS) : POp × RS := (⟨(numR 2 s).1, (readsR mvR (numR 1 (numR 2 s).2).2).1, (numR 1 (numR 2 s).2).1⟩, (readsR mvR (numR 1 (numR 2 s).2).2).2)
def decR (s0 : RS) : PE × RS :=
 let s1 := numR 1 s0
 let s2 := numR 1 s1.2
 let s3 := numR 2 s2.2
 let s4 := numR 1 s3.2
 let s5 := numR 3 s4.2
 let s6 := numR 3 s5.2
 let s7 := spR s6.2
 let s9 := spR s7.2
 let s11 := imR s9.2
 let s12 := imR s11.2
 let s13 := readsR mvR s12.2
 let s14 := readsR lvR s13.2
 let s15 := readsR dtR s14.2
 let s16 := readsR opR s15.2
 (⟨s1.1, s2.1, s3.1, s4.1, s5.1, s6.1, s7.1.1, s7.1.2, s9.1.1, s9.1.2, s11.1, s12.1, s13.1, s14.1, s15.1, s16.1⟩, s16.2)
def takeR (b : List Int) : Option PE := if (decR (b, false)).2.2 = false ∧ (decR (b, false)).2.1 = [] ∧ (decR (b, false)).1.may = true then some (decR (b, false)).1 else none

def Snd {α : Type} (f : RS → α × RS) (enc : α → List Int) : Prop := ∀ s : RS, Byt s.1 → (f s).2.2 = false → s.2 = false ∧ s.1 = enc (f s).1 ++ (f s).2.1
theorem byt_of_snd {α : Type} {f : RS → α × RS} {enc : α → List Int} (hf : Snd f enc) {s : RS} (hb : Byt s.1) (h : (f s).2.2 = false) : Byt (f s).2.1 := by
 have h2 := (hf s hb h).2
 rw [h2] at hb
 exact hb.right
theorem numB_decB {l : List Int} {n : Nat} (hb : Byt l) (hl : l.length = n) (hn : n = 1 ∨ n = 2 ∨ n = 3) : numB n (decB l) = l := by
 have e0 : (256 : Int) ^ 0 = 1 := rfl
 have e1 : (256 : Int) ^ 1 = 256 := rfl
 have e2 : (256 : Int) ^ 2 = 65536 := rfl
 rcases hn with rfl | rfl | rfl
 · match l, hl with
   | [a], _ =>
    have ha := hb a (by simp)
    show [(0 * 256 + a) / 256 ^ 0 % 256] = [a]
    rw [e0]
    congr 1
    omega
 · match l, hl with
   | [a, b], _ =>
    have ha := hb a (by simp)
    have hb' := hb b (by simp)
    show [((0 * 256 + a) * 256 + b) / 256 ^ 1 % 256, ((0 * 256 + a) * 256 + b) / 256 ^ 0 % 256] = [a, b]
    rw [e0, e1]
    congr 1
    · omega
    · congr 1
      omega
 · match l, hl with
   | [a, b, c], _ =>
    have ha := hb a (by simp)
    have hb' := hb b (by simp)
    have hc := hb c (by simp)
    show [(((0 * 256 + a) * 256 + b) * 256 + c) / 256 ^ 2 % 256, (((0 * 256 + a) * 256 + b) * 256 + c) / 256 ^ 1 % 256, (((0 * 256 + a) * 256 + b) * 256 + c) / 256 ^ 0 % 256] = [a, b, c]
    rw [e0, e1, e2]
    congr 1
    · omega
    · congr 1
      · omega
      · congr 1
        omega
theorem tkR_snd {n : Nat} {s : RS} (h : (tkR n s).2.2 = false) : s.2 = false ∧ s.1 = (tkR n s).1 ++ (tkR n s).2.1 ∧ (tkR n s).1.length = n := by
 unfold tkR at h ⊢
 split at h
 · cases h
 · rename_i hc
   rw [if_neg hc]
   rw [not_or] at hc
   refine ⟨h, (List.take_append_drop n s.1).symm, ?_⟩
   rw [List.length_take]
   omega
theorem numR_snd {n : Nat} (hn : n = 1 ∨ n = 2 ∨ n = 3) : Snd (numR n) (fun v => numsB n [v]) := by
 intro s hb h
 obtain ⟨h1, h2, h3⟩ := tkR_snd (n := n) (s := s) h
 refine ⟨h1, ?_⟩
 have hby : Byt (tkR n s).1 := by
  have := hb
  rw [h2] at this
  exact this.left
 have e : numsB n [(numR n s).1] = (tkR n s).1 := by
  show numB n (decB (tkR n s).1) ++ [] = _
  rw [List.append_nil]
  exact numB_decB hby h3 hn
 show s.1 = numsB n [(numR n s).1] ++ (tkR n s).2.1
 rw [e]
 exact h2
def Bad {α : Type} (f : RS → α × RS) : Prop := ∀ s : RS, s.2 = true → (f s).2.2 = true
theorem Bad.ok {α : Type} {f : RS → α × RS} (h : Bad f) {s : RS} (hf : (f s).2.2 = false) : s.2 = false := by
 cases hs : s.2 with
 | false => rfl
 | true =>
  have := h s hs
  rw [this] at hf
  cases hf
theorem tkR_bad {n : Nat} : Bad (tkR n) := fun s h => by
 unfold tkR
 rw [if_pos (.inl h)]
theorem numR_bad {n : Nat} : Bad (numR n) := fun s h => tkR_bad s h
theorem spR_bad : Bad spR := fun s h => numR_bad _ (numR_bad s h)
theorem imR_bad : Bad imR := fun s h => by
 have h1 : (numR 1 s).2.2 = true := numR_bad s h
 unfold imR imT
 split
 · exact h1
 · split
   · exact h1
   · rfl
theorem manyR_bad : Bad manyR := fun s h => by
 have h1 : (numR 1 s).2.2 = true := numR_bad s h
 unfold manyR manyT
 rw [if_pos (.inr h1)]
theorem loopS_bad {α : Type} {f : RS → α × RS} (_hf : Bad f) (k : Nat) : Bad (loopS f k) := fun s h => by
 cases k with
 | zero => exact h
 | succ k =>
  unfold loopS
  rw [if_pos h]
  exact h
theorem readsR_bad {α : Type} {f : RS → α × RS} (hf : Bad f) : Bad (readsR f) := fun s h => loopS_bad hf _ _ (manyR_bad s h)
theorem mvR_bad : Bad mvR := fun s h => spR_bad _ (spR_bad s h)
theorem lvR_bad : Bad lvR := fun s h => by
 have h1 : (numR 1 (numR 3 (numR 3 (numR 1 s).2).2).2).2.2 = true := numR_bad _ (numR_bad _ (numR_bad _ (numR_bad s h)))
 show ((numR 1 (numR 3 (numR 3 (numR 1 s).2).2).2).2.2 || _) = true
 rw [h1]
 rfl
theorem dtR_bad : Bad dtR := fun s h => numR_bad _ (numR_bad s h)
theorem opR_bad : Bad opR := fun s h => readsR_bad mvR_bad _ (numR_bad _ (numR_bad s h))
theorem snd_then {α β : Type} {f : RS → α × RS} {g : RS → β × RS} {ef : α → List Int} {eg : β → List Int} (hf : Snd f ef) (hg : Snd g eg) (bg : Bad g) {s : RS} (hb : Byt s.1) (h : (g (f s).2).2.2 = false) :
 s.2 = false ∧ (f s).2.2 = false ∧ Byt (f s).2.1 ∧ s.1 = ef (f s).1 ++ (eg (g (f s).2).1 ++ (g (f s).2).2.1) := by
 have h1 := bg.ok h
 obtain ⟨a1, a2⟩ := hf s hb h1
 have hb2 := byt_of_snd hf hb h1
 obtain ⟨b1, b2⟩ := hg _ hb2 h
 exact ⟨a1, h1, hb2, by rw [← b2]; exact a2⟩
theorem spR_snd : Snd spR (fun p => numsB 1 [p.1, p.2]) := by
 intro s hb h
 obtain ⟨a1, a2, a3, a4⟩ := snd_then (numR_snd (.inl rfl)) (numR_snd (.inl rfl)) numR_bad hb h
 refine ⟨a1, ?_⟩
 rw [a4]
 show numB 1 (numR 1 s).1 ++ [] ++ ((numB 1 (numR 1 (numR 1 s).2).1 ++ []) ++ _) = (numB 1 (numR 1 s).1 ++ (numB 1 (numR 1 (numR 1 s).2).1 ++ [])) ++ (numR 1 (numR 1 s).2).2.1
 simp only [List.append_nil, List.append_assoc]
theorem imR_snd : Snd imR imB := by
 intro s hb h
 have key : (numR 1 s).2.2 = false := by
  cases hk : (numR 1 s).2.2 with
  | false => rfl
  | true =>
   exfalso
   unfold imR imT at h
   split at h
   · rw [hk] at h; cases h
   · split at h
     · have h' : (numR 1 s).2.2 = false := h
       rw [hk] at h'; cases h'
     · cases h
 obtain ⟨a1, a2⟩ := numR_snd (.inl rfl) s hb key
 refine ⟨a1, ?_⟩
 unfold imR imT at h ⊢
 split at h
 · rename_i h0
   rw [if_pos h0]
   rw [h0] at a2
   exact a2
 · rename_i h0
   split at h
   · rename_i h6
     rw [if_neg h0, if_pos h6, if_neg (by rw [key]; simp)]
     rw [if_neg (by rw [key]; simp)] at h
     obtain ⟨b1, b2, b3⟩ := tkR_snd h
     unfold imB
     rw [b3, List.append_assoc, ← b2, a2, h6]
     rfl
   · cases h
theorem loopS_snd {α : Type} {f : RS → α × RS} {enc : α → List Int} (hf : Snd f enc) (bf : Bad f) : ∀ (k : Nat) (s : RS), Byt s.1 → (loopS f k s).2.2 = false → s.2 = false ∧ s.1 = (loopS f k s).1.flatMap enc ++ (loopS f k s).2.1 ∧ (loopS f k s).1.length = k
 | 0, s, _, h => ⟨h, rfl, rfl⟩
 | k + 1, s, hb, h => by
  have h0 : s.2 = false := (loopS_bad bf (k + 1)).ok h
  unfold loopS at h ⊢
  rw [if_neg (by rw [h0]; simp)] at h ⊢
  have h1 : (f s).2.2 = false := (loopS_bad bf k).ok h
  obtain ⟨a1, a2⟩ := hf s hb h1
  obtain ⟨b1, b2, b3⟩ := loopS_snd hf bf k (f s).2 (byt_of_snd hf hb h1) h
  refine ⟨h0, ?_, by simp [b3]⟩
  rw [List.flatMap_cons, List.append_assoc, ← b2]
  exact a2
theorem readsR_snd {α : Type} {f : RS → α × RS} {enc : α → List Int} (hf : Snd f enc) (bf : Bad f) : Snd (readsR f) (listB enc) := by
 intro s hb h
 unfold readsR at h ⊢
 have hm : (manyR s).2.2 = false := (loopS_bad bf _).ok h
 have key : (numR 1 s).2.2 = false ∧ ¬ 40 < (numR 1 s).1 := by
  unfold manyR manyT at hm
  split at hm
  · cases hm
  · rename_i hc
    rw [not_or] at hc
    exact ⟨by simpa using hc.2, hc.1⟩
 have em : manyR s = ((numR 1 s).1.toNat, (numR 1 s).2) := by
  unfold manyR manyT
  rw [if_neg (by rw [not_or]; exact ⟨key.2, by rw [key.1]; simp⟩)]
 obtain ⟨a1, a2⟩ := numR_snd (.inl rfl) s hb key.1
 rw [em] at h ⊢
 obtain ⟨b1, b2, b3⟩ := loopS_snd hf bf _ _ (byt_of_snd (numR_snd (.inl rfl)) hb key.1) h
 refine ⟨a1, ?_⟩
 unfold listB
 rw [b3, List.append_assoc, ← b2]
 have h0 : 0 ≤ (numR 1 s).1 := by
  obtain ⟨-, c2, c3⟩ := tkR_snd (n := 1) (s := s) key.1
  have hby : Byt (tkR 1 s).1 := by
   have := hb
   rw [c2] at this
   exact this.left
  show 0 ≤ decB (tkR 1 s).1
  match hl : (tkR 1 s).1, c3 with
  | [a], _ =>
   rw [hl] at hby
   have := hby a (by simp)
   show 0 ≤ 0 * 256 + a
   omega
 rw [Int.toNat_of_nonneg h0]
 exact a2
theorem mvR_snd : Snd mvR mvB := by
 intro s hb h
 obtain ⟨a1, a2, a3, a4⟩ := snd_then spR_snd spR_snd spR_bad hb h
 refine ⟨a1, ?_⟩
 show s.1 = (numsB 1 [(spR s).1.1, (spR s).1.2] ++ numsB 1 [(spR (spR s).2).1.1, (spR (spR s).2).1.2]) ++ (spR (spR s).2).2.1
 rw [List.append_assoc]
 exact a4
theorem dtR_snd : Snd dtR dtB := by
 intro s hb h
 obtain ⟨a1, a2, a3, a4⟩ := snd_then (numR_snd (.inl rfl)) (numR_snd (.inr (.inr rfl))) numR_bad hb h
 refine ⟨a1, ?_⟩
 show s.1 = (numsB 1 [(numR 1 s).1] ++ numsB 3 [(numR 3 (numR 1 s).2).1]) ++ (numR 3 (numR 1 s).2).2.1
 rw [List.append_assoc]
 exact a4
theorem nums_two (n : Nat) (a b : Int) : numsB n [a] ++ numsB n [b] = numsB n [a, b] := by simp [numsB]
theorem lvR_snd : Snd lvR lvB := by
 intro s hb h
 have h' : ((numR 1 (numR 3 (numR 3 (numR 1 s).2).2).2).2.2 || decide (1 < (numR 1 (numR 3 (numR 3 (numR 1 s).2).2).2).1)) = false := h
 rw [Bool.or_eq_false_iff] at h'
 have hd := of_decide_eq_false h'.2
 have g1 := numR_bad.ok h'.1
 have g2 := numR_bad.ok g1
 obtain ⟨a1, -, a3, a4⟩ := snd_then (numR_snd (.inl rfl)) (numR_snd (.inr (.inr rfl))) numR_bad hb g2
 have b2 := byt_of_snd (numR_snd (.inr (.inr rfl))) a3 g2
 obtain ⟨-, -, c3, c4⟩ := snd_then (numR_snd (.inr (.inr rfl))) (numR_snd (.inl rfl)) numR_bad b2 h'.1
 refine ⟨a1, ?_⟩
 generalize hx1 : numR 1 s = x1 at *
 generalize hx2 : numR 3 x1.2 = x2 at *
 generalize hx3 : numR 3 x2.2 = x3 at *
 have hr : 0 ≤ (numR 1 x3.2).1 := by
  obtain ⟨-, d2, d3⟩ := tkR_snd (n := 1) (s := x3.2) h'.1
  have hby : Byt (tkR 1 x3.2).1 := by
   have := c3
   rw [d2] at this
   exact this.left
  show 0 ≤ decB (tkR 1 x3.2).1
  match hl : (tkR 1 x3.2).1, d3 with
  | [a], _ =>
   rw [hl] at hby
   have := hby a (by simp)
   show 0 ≤ 0 * 256 + a
   omega
 generalize hx4 : numR 1 x3.2 = x4 at *
 have e : (lvR s).1 = ⟨x1.1, x2.1, x3.1, x4.1 == 1⟩ ∧ (lvR s).2.1 = x4.2.1 := by
  unfold lvR lvT
  rw [hx1, hx2, hx3, hx4]
  exact ⟨rfl, rfl⟩
 rw [e.1, e.2, a4, c4]
 have hbit : bitB (x4.1 == 1) = x4.1 := by
  by_cases h1 : x4.1 = 1
  · rw [h1]; rfl
  · have : (x4.1 == 1) = false := by rw [beq_eq_false_iff_ne]; exact h1
    rw [this]
    show (0 : Int) = _
    omega
 unfold lvB
 simp only
 rw [hbit, ← nums_two 3]
 simp only [List.append_assoc]
theorem opR_snd : Snd opR opB := by
 intro s hb h
 have h' : (readsR mvR (numR 1 (numR 2 s).2).2).2.2 = false := h
 have g1 := (readsR_bad mvR_bad).ok h'
 obtain ⟨a1, -, a3, a4⟩ := snd_then (numR_snd (.inr (.inl rfl))) (numR_snd (.inl rfl)) numR_bad hb g1
 have b2 := byt_of_snd (numR_snd (.inl rfl)) a3 g1
 obtain ⟨-, c2⟩ := (readsR_snd mvR_snd mvR_bad) _ b2 h'
 refine ⟨a1, ?_⟩
 show s.1 = (numsB 2 [(numR 2 s).1] ++ numsB 1 [(numR 1 (numR 2 s).2).1] ++ listB mvB (readsR mvR (numR 1 (numR 2 s).2).2).1) ++ (readsR mvR (numR 1 (numR 2 s).2).2).2.1
 rw [a4, c2]
 simp only [List.append_assoc]

structure Was (s0 : RS) (l : List Int) (s : RS) : Prop where
 a : s0.2 = false
 b : Byt s.1
 c : s0.1 = l ++ s.1
theorem decR_snd : Snd decR encB := by
 intro s hb h
 have start : s.2 = false → Was s [] s := fun e => ⟨e, hb, rfl⟩
 have step : ∀ {α : Type} {f : RS → α × RS} {enc : α → List Int} {l : List Int} {x : RS}, Snd f enc → (f x).2.2 = false → Was s l x → Was s (l ++ enc (f x).1) (f x).2 := by
  intro α f enc l x hf h0 hw
  obtain ⟨-, a2⟩ := hf x hw.b h0
  exact ⟨hw.a, byt_of_snd hf hw.b h0, by rw [hw.c, List.append_assoc, ← a2]⟩
 generalize hs1 : numR 1 s = s1 at *
 generalize hs2 : numR 1 s1.2 = s2 at *
 generalize hs3 : numR 2 s2.2 = s3 at *
 generalize hs4 : numR 1 s3.2 = s4 at *
 generalize hs5 : numR 3 s4.2 = s5 at *
 generalize hs6 : numR 3 s5.2 = s6 at *
 generalize hs7 : spR s6.2 = s7 at *
 generalize hs9 : spR s7.2 = s9 at *
 generalize hs11 : imR s9.2 = s11 at *
 generalize hs12 : imR s11.2 = s12 at *
 generalize hs13 : readsR mvR s12.2 = s13 at *
 generalize hs14 : readsR lvR s13.2 = s14 at *
 generalize hs15 : readsR dtR s14.2 = s15 at *
 generalize hs16 : readsR opR s15.2 = s16 at *
 have e : decR s = (⟨s1.1, s2.1, s3.1, s4.1, s5.1, s6.1, s7.1.1, s7.1.2, s9.1.1, s9.1.2, s11.1, s12.1, s13.1, s14.1, s15.1, s16.1⟩, s16.2) := by
  unfold decR
  simp only [hs1, hs2, hs3, hs4, hs5, hs6, hs7, hs9, hs11, hs12, hs13, hs14, hs15, hs16]
 rw [e] at h ⊢
 have h16 : s16.2.2 = false := h
 have h15 : s15.2.2 = false := (readsR_bad opR_bad).ok (by rw [hs16]; exact h16)
 have h14 : s14.2.2 = false := (readsR_bad dtR_bad).ok (by rw [hs15]; exact h15)
 have h13 : s13.2.2 = false := (readsR_bad lvR_bad).ok (by rw [hs14]; exact h14)
 have h12 : s12.2.2 = false := (readsR_bad mvR_bad).ok (by rw [hs13]; exact h13)
 have h11 : s11.2.2 = false := imR_bad.ok (by rw [hs12]; exact h12)
 have h9 : s9.2.2 = false := imR_bad.ok (by rw [hs11]; exact h11)
 have h7 : s7.2.2 = false := spR_bad.ok (by rw [hs9]; exact h9)
 have h6 : s6.2.2 = false := spR_bad.ok (by rw [hs7]; exact h7)
 have h5 : s5.2.2 = false := numR_bad.ok (by rw [hs6]; exact h6)
 have h4 : s4.2.2 = false := numR_bad.ok (by rw [hs5]; exact h5)
 have h3 : s3.2.2 = false := numR_bad.ok (by rw [hs4]; exact h4)
 have h2 : s2.2.2 = false := numR_bad.ok (by rw [hs3]; exact h3)
 have h1 : s1.2.2 = false := numR_bad.ok (by rw [hs2]; exact h2)
 have h0 : s.2 = false := numR_bad.ok (by rw [hs1]; exact h1)
 have w0 := start h0
 have w1 := step (numR_snd (.inl rfl)) (by rw [hs1]; exact h1) w0
 rw [hs1] at w1
 have w2 := step (numR_snd (.inl rfl)) (by rw [hs2]; exact h2) w1
 rw [hs2] at w2
 have w3 := step (numR_snd (.inr (.inl rfl))) (by rw [hs3]; exact h3) w2
 rw [hs3] at w3
 have w4 := step (numR_snd (.inl rfl)) (by rw [hs4]; exact h4) w3
 rw [hs4] at w4
 have w5 := step (numR_snd (.inr (.inr rfl))) (by rw [hs5]; exact h5) w4
 rw [hs5] at w5
 have w6 := step (numR_snd (.inr (.inr rfl))) (by rw [hs6]; exact h6) w5
 rw [hs6] at w6
 have w7 := step spR_snd (by rw [hs7]; exact h7) w6
 rw [hs7] at w7
 have w9 := step spR_snd (by rw [hs9]; exact h9) w7
 rw [hs9] at w9
 have w11 := step imR_snd (by rw [hs11]; exact h11) w9
 rw [hs11] at w11
 have w12 := step imR_snd (by rw [hs12]; exact h12) w11
 rw [hs12] at w12
 have w13 := step (readsR_snd mvR_snd mvR_bad) (by rw [hs13]; exact h13) w12
 rw [hs13] at w13
 have w14 := step (readsR_snd lvR_snd lvR_bad) (by rw [hs14]; exact h14) w13
 rw [hs14] at w14
 have w15 := step (readsR_snd dtR_snd dtR_bad) (by rw [hs15]; exact h15) w14
 rw [hs15] at w15
 have w16 := step (readsR_snd opR_snd opR_bad) (by rw [hs16]; exact h16) w15
 rw [hs16] at w16
 refine ⟨h0, ?_⟩
 rw [w16.c]
 unfold encB
 simp only [← nums_two, List.nil_append, List.append_assoc]

theorem tkR_app {a r : List Int} {n : Nat} (h : a.length = n) : tkR n (a ++ r, false) = (a, (r, false)) := by
 unfold tkR
 rw [if_neg (by simp only [List.length_append]; simp; omega)]
 simp only
 rw [List.take_left' h, List.drop_left' h]
theorem numR_enc {n : Nat} {v : Int} {r : List Int} (h : fitsB n [v] = true) : numR n (numsB n [v] ++ r, false) = (v, (r, false)) := by
 rw [fitsB_cons] at h
 unfold numR
 rw [show numsB n [v] = numB n v from List.append_nil _, tkR_app (numB_length n v), decB_numB n v h.1.1 h.1.2]
theorem fitsB_two {n : Nat} {a b : Int} (h : fitsB n [a, b] = true) : fitsB n [a] = true ∧ fitsB n [b] = true := by
 rw [fitsB_cons] at h
 exact ⟨by rw [fitsB_cons]; exact ⟨h.1, rfl⟩, h.2⟩
theorem spR_enc {a b : Int} {r : List Int} (h : fitsB 1 [a, b] = true) : spR (numsB 1 [a, b] ++ r, false) = ((a, b), (r, false)) := by
 obtain ⟨h1, h2⟩ := fitsB_two h
 unfold spR
 rw [← nums_two, List.append_assoc, numR_enc h1, numR_enc h2]
theorem imR_enc {b r : List Int} (h : imgB b = true) : imR (imB b ++ r, false) = (b, (r, false)) := by
 unfold imgB at h
 simp only [Bool.or_eq_true, decide_eq_true_eq] at h
 unfold imR imB
 rw [List.append_assoc, numR_enc (fits_len (by omega))]
 unfold imT
 simp only
 rcases h with h | h
 · have hb : b = [] := List.length_eq_zero_iff.1 h
   rw [hb]
   rfl
 · rw [h, if_neg (by decide), if_pos (by rfl), if_neg (by simp)]
   exact tkR_app h
theorem readsR_enc {α : Type} {f : α → List Int} {p : α → Bool} {g : RS → α × RS} (hg : ∀ x r, p x = true → g (f x ++ r, false) = (x, (r, false))) (l : List α) (r : List Int) (h : eachB p l = true) : readsR g (listB f l ++ r, false) = (l, (r, false)) := by
 unfold eachB at h
 simp only [Bool.and_eq_true, decide_eq_true_eq] at h
 have hm : manyR (listB f l ++ r, false) = (l.length, (l.flatMap f ++ r, false)) := by
  unfold manyR listB
  rw [List.append_assoc, numR_enc (fits_len (by omega))]
  unfold manyT
  simp only
  rw [if_neg (by simp; omega), Int.toNat_natCast]
 unfold readsR
 rw [hm]
 exact loopS_enc hg l r h.2
theorem mvR_enc (m : PMv) (r : List Int) (h : mvMay m = true) : mvR (mvB m ++ r, false) = (m, (r, false)) := by
 unfold mvMay at h
 simp only [Bool.and_eq_true] at h
 unfold mvR mvB
 rw [List.append_assoc, spR_enc h.1, spR_enc h.2]
theorem dtR_enc (x : PDt) (r : List Int) (h : dtMay x = true) : dtR (dtB x ++ r, false) = (x, (r, false)) := by
 unfold dtMay at h
 simp only [Bool.and_eq_true] at h
 unfold dtR dtB
 rw [List.append_assoc, numR_enc h.1, numR_enc h.2]
theorem lvR_enc (x : PLv) (r : List Int) (h : lvMay x = true) : lvR (lvB x ++ r, false) = (x, (r, false)) := by
 unfold lvMay at h
 simp only [Bool.and_eq_true] at h
 obtain ⟨h2, h3⟩ := fitsB_two h.2
 have h4 : fitsB 1 [bitB x.commit] = true := by cases x.commit <;> rfl
 unfold lvR lvB
 rw [← nums_two]
 simp only [List.append_assoc]
 rw [numR_enc h.1, numR_enc h2, numR_enc h3, numR_enc h4]
 unfold lvT
 cases x with
 | mk a b c d => cases d <;> rfl
theorem opR_enc (x : POp) (r : List Int) (h : opMay x = true) : opR (opB x ++ r, false) = (x, (r, false)) := by
 unfold opMay at h
 simp only [Bool.and_eq_true] at h
 unfold opR opB
 simp only [List.append_assoc]
 rw [numR_enc h.1.1, numR_enc h.1.2, readsR_enc mvR_enc x.moves _ h.2]
theorem decR_enc (e : PE) (h : e.may = true) (r : List Int) : decR (encB e ++ r, false) = (e, (r, false)) := by
 unfold PE.may at h
 simp only [Bool.and_eq_true] at h
 obtain ⟨⟨⟨⟨⟨⟨⟨⟨⟨⟨⟨⟨h1, h2⟩, h3⟩, h4⟩, h5⟩, h6⟩, h7⟩, h8⟩, h9⟩, h10⟩, h11⟩, h12⟩, h13⟩ := h
 have k1 : fitsB 1 [e.kind] = true := by
  rw [fitsB_cons]
  refine ⟨⟨?_, ?_⟩, rfl⟩
  · have := of_decide_eq_true h1
    omega
  · have := of_decide_eq_true h2
    have h : (256 : Int) ^ 1 = 256 := rfl
    omega
 obtain ⟨k2, k3⟩ := fitsB_two h3
 obtain ⟨k4, k5⟩ := fitsB_two h5
 unfold encB
 rw [← nums_two 1 e.kind, ← nums_two 3]
 simp only [List.append_assoc]
 unfold decR
 simp only [numR_enc k1, numR_enc k2, numR_enc h4, numR_enc k3, numR_enc k4, numR_enc k5, spR_enc h6, spR_enc h7, imR_enc h8, imR_enc h9, readsR_enc mvR_enc e.moves _ h10, readsR_enc lvR_enc e.lives _ h11, readsR_enc dtR_enc e.dirty _ h12, readsR_enc opR_enc e.opens _ h13]
theorem takeR_takeE {b : List Int} (hb : Byt b) : takeR b = takeE b := by
 unfold takeR
 split
 · rename_i h
   obtain ⟨-, h2⟩ := decR_snd (b, false) hb h.1
   rw [h.2.1, List.append_nil] at h2
   exact ((takeE_iff b _).2 ⟨h.2.2, h2⟩).symm
 · rename_i h
   cases ht : takeE b with
   | none => rfl
   | some e =>
    exfalso
    obtain ⟨h1, h2⟩ := (takeE_iff b e).1 ht
    apply h
    have := decR_enc e h1 []
    rw [List.append_nil, ← h2] at this
    rw [this]
    exact ⟨rfl, rfl, h1⟩
end Go.Proofs.YtojkggppcmdepaaGreat

namespace Go.Proofs.YtojkggppcmdepaaGreat
open Go.RowKit Go.Wh Go.Maps

def TfPost (W : World) (X Q : Nat → Prop) (r n B : Nat) (t : List Int × RS) (e : Ending) (w' : World) : Prop := ∃ v, e = .returned v ∧ Sl w' (fun g => B ≤ g) 1 v n (bc t.1) ∧ RAt W X Q r t.2 w'
set_option maxHeartbeats 1000000 in
set_option maxRecDepth 100000 in
theorem rtake_any (W w : World) (X Q : Nat → Prop) (r n : Nat) (s : RS) (h : RAt W X Q r s w) (hn : n ≤ 255) (hl : s.1.length ≤ 100000) :
 Calls Tryz.prog 119 #[.pointer (some ⟨r, 0, none⟩), .int .i64 n] w (TfPost W X Q r n w.heap.size (tkR n s)) := by
 obtain ⟨l, sh⟩ := s
 obtain ⟨bv, hc, hb, hcap⟩ := h.b
 dsimp only at hc hb hl hcap
 have f0 := hc.free 0
 have f1 := hc.free 1
 have c1 : w.cell? ⟨r, 1, none⟩ = some (.bool sh) := hc.cell 1
 by_cases hlt : sh = true ∨ l.length < n
 · have hmk := make_b n hn
   have F := Lib.hid (fun t => show TfPost W X Q r n w.heap.size (tkR n (l, sh)) (.returned (.slice (some ⟨w.heap.size, 0, none⟩) n n)) ((w.setCell ⟨r, 1, none⟩ (.bool true)).alloc (.cells (bc (List.replicate n 0)).toArray t)) from by
    have hts : tkR n (l, sh) = (List.replicate n 0, (l, true)) := by unfold tkR; rw [if_pos hlt]
    rw [hts]
    have hs := setCell_only w ⟨r, 1, none⟩ (.bool true)
    have hz : (w.setCell ⟨r, 1, none⟩ (.bool true)).heap.size = w.heap.size := by simp [World.setCell]
    have hcc := (hc.setCell 1 (.bool true) : cellsAt _ r _)
    have hnew := cellsAt_new (w.setCell ⟨r, 1, none⟩ (.bool true)) (bc (List.replicate n 0)) t
    rw [hz] at hnew
    have hqr : ∀ g, Q g → ¬ g = r := fun g hg e => (h.qx g hg).1 (e ▸ h.rx)
    refine ⟨_, rfl, ⟨by rw [bc_length, List.length_replicate, Nat.mul_one], .inr ⟨_, _, _, rfl, fun _ => ⟨Nat.le_refl _, hnew.lt⟩, fun j u hj => by rw [Nat.zero_add, hnew.cell]; exact hj⟩⟩, ?_⟩
    exact ⟨(h.only.trans (hs.mono fun b e => by rw [show b = r from e]; exact h.rx)).alloc _, h.rx, h.rl, h.qx, ⟨bv, hcc.alloc _, (hb.only hs hqr).still ((Still.refl _).alloc _), hcap⟩, h.byt⟩)
   obtain ⟨ba, bcp, rfl⟩ := hb.form
   have c0 : w.cell? ⟨r, 0, none⟩ = some (.slice ba l.length bcp) := hc.cell 0
   generalize tkR n (l, sh) = TK at *
   generalize l.length = L at *
   cases sh with
   | true =>
    clear hc hlt hn hl h hb hcap
    go_enter Tryz.func119, Tryz.ntmps119
    go_wp2_with fail
    go_ret
    exact F.out _
   | false =>
    have hlt2 : L < n := by rcases hlt with h | h; cases h; exact h
    have d1 : decide ((L : Int) < (n : Int)) = true := decide_eq_true (by omega)
    have d2 : decide (L < n) = true := decide_eq_true hlt2
    clear hc hlt hlt2 hn hl h hb hcap
    go_enter Tryz.func119, Tryz.ntmps119
    go_wp2_with fail
    go_ret
    exact F.out _
 · rw [not_or] at hlt
   obtain ⟨hsh, hlt⟩ := hlt
   have hsh2 : sh = false := by simpa using hsh
   subst hsh2
   clear hsh
   have d1 : decide ((l.length : Int) < (n : Int)) = false := decide_eq_false (by omega)
   have d2 : decide (l.length < n) = false := decide_eq_false hlt
   obtain ⟨pv, -, r1, -, hp1, hp2⟩ := hb.part (P := Tryz.prog) (size := 1) 23 Tryz.underlying23 (fun w => rfl) hcap (Nat.zero_le n) (show n ≤ l.length by omega)
   obtain ⟨qv, -, -, r2, hq1, hq2⟩ := hb.part (P := Tryz.prog) (size := 1) 23 Tryz.underlying23 (fun w => rfl) hcap (show n ≤ l.length by omega) (Nat.le_refl _)
   have r1' := r1 rfl
   have r2' := r2 rfl
   have hts : tkR n (l, false) = (l.take n, (l.drop n, false)) := by
    unfold tkR
    rw [if_neg (by rintro (h | h); cases h; exact hlt h)]
   have hs := setCell_only w ⟨r, 0, none⟩ qv
   have hcc := (hc.setCell 0 qv : cellsAt _ r _)
   have hqr : ∀ g, Q g → ¬ g = r := fun g hg e => (h.qx g hg).1 (e ▸ h.rx)
   have hps := (hp2 w Q hb).only hs hqr
   have hqs := (hq2 w Q hb).only hs hqr
   have hz : (w.setCell ⟨r, 0, none⟩ qv).heap.size = w.heap.size := by simp [World.setCell]
   have hps' : Sl (w.setCell ⟨r, 0, none⟩ qv) Q 1 pv n (bc (l.take n)) := by
    rw [Nat.zero_mul, List.drop_zero, Nat.sub_zero, Nat.mul_one, bc_take] at hps
    exact hps
   have HRD := Lib.hid (show RAt W X Q r (l.drop n, false) (w.setCell ⟨r, 0, none⟩ qv) from
    ⟨h.only.trans (hs.mono fun b e => by rw [show b = r from e]; exact h.rx), h.rx, h.rl, h.qx, ⟨qv, hcc, by
     rw [Nat.mul_one, Nat.mul_one, bc_drop, List.take_of_length_le (by rw [bc_length, List.length_drop]; omega)] at hqs
     rw [List.length_drop]
     exact hqs, by
     rw [List.length_drop]
     exact hq1⟩, h.byt.drop n⟩)
   have HP := Lib.hid (And.intro hps' (And.intro hz (show (l.take n).length = n by rw [List.length_take]; omega)))
   have HN := Lib.hid (show n ≤ 255 from hn)
   obtain ⟨i0, hi0, hz0, hz1, hz2⟩ := info_parts info_b
   have HI := Lib.hid (And.intro hi0 (And.intro hz0 (And.intro hz1 hz2)))
   obtain ⟨ba, bcp, rfl⟩ := hb.form
   have c0 : w.cell? ⟨r, 0, none⟩ = some (.slice ba l.length bcp) := hc.cell 0
   rw [hts]
   generalize l.drop n = ld at *
   generalize l.take n = lt at *
   generalize l.length = L at *
   obtain ⟨pa, pc, rfl, -⟩ := hp1
   obtain ⟨qa, qc, rfl, -⟩ := hq1
   have HF := Lib.hid (fun tt v' w' (hv : Vec w' 1 v' (0 + n) ([] ++ bc lt)) (ho : Only (fun k => (Value.slice (some ⟨w.heap.size, 0, none⟩) 0 0).ownBlock = some k) ((w.setCell ⟨r, 0, none⟩ (.slice qa (L - n) qc)).alloc (.cells #[] tt)) w') (hb : v'.ownBlock = (Value.slice (some ⟨w.heap.size, 0, none⟩) 0 0).ownBlock ∨ ∃ g, v'.ownBlock = some g ∧ ((w.setCell ⟨r, 0, none⟩ (.slice qa (L - n) qc)).alloc (.cells #[] tt)).heap.size ≤ g ∧ g < w'.heap.size) => show TfPost W X Q r n w.heap.size (lt, (ld, false)) (.returned v') w' from by
    have hza : ((w.setCell ⟨r, 0, none⟩ (.slice qa (L - n) qc)).alloc (.cells #[] tt)).heap.size = w.heap.size + 1 := by simp
    have hzo := ho.size
    rw [hza] at hzo hb
    refine ⟨v', rfl, ?_, HRD.out.still (Only.andThen (S := fun _ => False) ((Still.refl _).alloc _) ho fun i hi e => ?_)⟩
    · rw [List.nil_append, Nat.zero_add] at hv
      exact Vec.sl hv fun g hg => by
       rcases hb with e | ⟨g', e, e1, e2⟩
       · rw [e] at hg
         have e' : w.heap.size = g := Option.some.inj hg
         omega
       · rw [e] at hg
         have e' : g' = g := Option.some.inj hg
         omega
    · have e' : w.heap.size = i := Option.some.inj e
      rw [HP.out.2.1] at hi
      omega)
   have HRD2 := Lib.hid (fun tt => show Reads ((w.setCell ⟨r, 0, none⟩ (.slice qa (L - n) qc)).alloc (.cells #[] tt)) 1 (.slice pa n pc) n (bc lt) from Reads.still HP.out.1.reads ((Still.refl _).alloc _))
   simp only [Nat.sub_zero] at *
   clear hc hlt hn hl h hb hcap hp2 hq2 r1 r2 hps hqs hps' hcc hs hqr hts hz hi0 hz0 hz1 hz2
   go_enter Tryz.func119, Tryz.ntmps119
   go_wp2_with (at_builtin; refine wpList_append_vec rfl _ _ 23 rfl 5 i0 _ 1 1 Tryz.underlying23 HI.out.1 HI.out.2.1 HI.out.2.2.1 HI.out.2.2.2 rfl (by decide) (.slice (some ⟨_, 0, none⟩) 0 0) 0 [] (by simp [Act.eval]; rfl) (Vec.none_ _ _ _ _) (.slice pa n pc) n (bc lt) (by simp [Act.eval]) (HRD2.out _) (bc_one _) (by have := HN.out; simp only [maxLen]; omega) (by have := HN.out; omega) ?_; intro v' w' hv' ho' hb'; have F := Lib.hid (HF.out _ v' w' hv' ho' hb'); clear hv' ho' hb' HF)
   go_ret
   exact F.out
set_option maxHeartbeats 1000000 in
theorem rsaid_any (w : World) (Q : Nat → Prop) (v : Value) (n : Nat) (l : List Int) (h : Sl w Q 1 v n (bc l)) (hb : Byt l) (hn : n ≤ 3) :
 Calls Tryz.prog 118 #[v] w (SamePost w (.int .i64 (decB l))) := by
 have hl : l.length = n := by have := h.1; rw [bc_length] at this; omega
 obtain ⟨va, vc, rfl⟩ := h.form
 have HB := Lib.hid (And.intro h (And.intro hb (And.intro hl hn)))
 clear h hb hl hn
 go_enter Tryz.func118, Tryz.ntmps118
 go_wp2_with fail
 go_loopw [3, 4] (fun s3 s4 wr => ∃ k : Nat, s4 = .int .i64 k ∧ k ≤ n ∧ wr = w ∧ s3 = .int .i64 (decB (l.take k))) (fun _ s4 _ => n - (intOf s4).toNat)
 case atStart => exact ⟨0, rfl, Nat.zero_le _, rfl, rfl⟩
 case round =>
  obtain ⟨k, rfl, hk, rfl, rfl⟩ := hrel
  by_cases hi : k < n
  · obtain ⟨z, hz⟩ : ∃ z, l[k]? = some z := ⟨_, List.getElem?_eq_getElem (by have := HB.out.2.2.1; omega)⟩
    obtain ⟨g, o, c, hg, -, -, hcs⟩ := HB.out.1.pos (by omega)
    cases hg
    have c0 : wr.cell? ⟨g, o + k, none⟩ = some (.int .u8 z) := hcs k _ (bc_get hz)
    have b1 : decide ((k : Int) < (n : Int)) = true := by simp; omega
    have b2 : decide (k < n) = true := by simp; omega
    have b3 : (0 : Int) ≤ (k : Int) := by omega
    have b4 : (k : Int) < (n : Int) := by omega
    have u9 : IntKind.i64.wrap ((k : Int) + 1) = (k : Int) + 1 := IntWalk.i64_in _ (by have := HB.out.2.2.2; omega)
    have hzb := HB.out.2.1 z (List.mem_of_getElem? hz)
    obtain ⟨z0, z1⟩ := hzb
    have hdr := decB_range (l.take k) (HB.out.2.1.take k)
    have hle : decB (l.take k) < 65536 := by
     have e : (l.take k).length = k := by rw [List.length_take]; have := HB.out.2.2.1; omega
     rw [e] at hdr
     have hn3 := HB.out.2.2.2
     have hk2 : k = 0 ∨ k = 1 ∨ k = 2 := by omega
     have p0 : (256 : Int) ^ 0 = 1 := rfl
     have p1 : (256 : Int) ^ 1 = 256 := rfl
     have p2 : (256 : Int) ^ 2 = 65536 := rfl
     rcases hk2 with rfl | rfl | rfl
     · rw [p0] at hdr; omega
     · rw [p1] at hdr; omega
     · rw [p2] at hdr; omega
    have h0 := hdr.1
    have HSN := Lib.hid (show decB (l.take (k + 1)) = decB (l.take k) * 256 + z from by rw [List.take_add_one, hz, Option.toList_some, decB_snoc])
    generalize decB (l.take k) = v at *
    have u1 : IntKind.i64.wrap (v * 256) = v * 256 := IntWalk.i64_in _ (by omega)
    have u2 : IntKind.i64.wrap (v * 256 + z) = v * 256 + z := IntWalk.i64_in _ (by omega)
    have u3 : IntKind.i64.wrap z = z := IntWalk.i64_in _ (by omega)
    clear hcs hz hdr
    go_wp2_with fail
    go_roundw
    case rel => exact ⟨k + 1, by go_num, by omega, trivial, by rw [HSN.out]⟩
    case measure => simp [intOf]; omega
  · have hke : k = n := by omega
    subst hke
    have b1 : decide ((k : Int) < (k : Int)) = false := by simp
    have F := Lib.hid (show SamePost wr (.int .i64 (decB l)) (.returned (.int .i64 (decB (l.take k)))) wr from ⟨by rw [List.take_of_length_le (by have := HB.out.2.2.1; omega)], rfl⟩)
    generalize decB (l.take k) = v at *
    go_wp2_with fail
    go_ret
    exact F.out
theorem tkR_byt {n : Nat} {s : RS} (h : Byt s.1) : Byt (tkR n s).1 ∧ Byt (tkR n s).2.1 := by
 unfold tkR
 split
 · exact ⟨Byt.zeros n, h⟩
 · exact ⟨h.take n, h.drop n⟩
theorem tkR_length {n : Nat} {s : RS} : (tkR n s).1.length = n := by
 unfold tkR
 split
 · simp
 · rename_i h
   rw [not_or] at h
   simp only [List.length_take]
   omega
theorem tkR_len {n : Nat} {s : RS} {k : Nat} (h : s.1.length ≤ k) : (tkR n s).2.1.length ≤ k := by
 unfold tkR
 split
 · exact h
 · simp only [List.length_drop]
   omega
theorem numR_len {n : Nat} {s : RS} {k : Nat} (h : s.1.length ≤ k) : (numR n s).2.1.length ≤ k := tkR_len h
theorem numR_range {n : Nat} {s : RS} (h : Byt s.1) : 0 ≤ (numR n s).1 ∧ (numR n s).1 < 256 ^ n := by
 have := decB_range (tkR n s).1 (tkR_byt h).1
 rw [tkR_length] at this
 exact this
theorem rnumr_any {W w : World} {X Q : Nat → Prop} {r : Nat} {s : RS} (n : Nat) {N : Int} (hN : (n : Int) = N) (h : RAt W X Q r s w) (hn : n ≤ 3) (hl : s.1.length ≤ 100000) :
 Calls Tryz.prog 74 #[.pointer (some ⟨r, 0, none⟩), .int .i64 N] w (NuPost W X Q r (numR n s)) := by
 subst hN
 have HT := Lib.hid (rtake_any W w X Q r n s h (by omega) hl)
 have HB := Lib.hid (And.intro (tkR_byt (n := n) h.byt).1 hn)
 unfold numR
 generalize tkR n s = T at *
 obtain ⟨t, st⟩ := T
 dsimp only at *
 clear h hn hl
 go_enter Tryz.func74, Tryz.ntmps74
 go_wp2_with fail
 refine HT.out.mono ?_
 rintro e w2 ⟨v, rfl, hv, hr⟩
 have HS := Lib.hid (rsaid_any w2 _ v n t hv HB.out.1 HB.out.2)
 have F := Lib.hid (show NuPost W X Q r (decB t, st) (.returned (.int .i64 (decB t))) w2 from ⟨rfl, hr⟩)
 obtain ⟨va, vc, rfl⟩ := hv.form
 clear hv hr HT
 generalize decB t = v at *
 go_wp2_with fail
 refine HS.out.mono ?_
 rintro e w3 ⟨rfl, rfl⟩
 go_wp2_with fail
 go_ret
 exact F.out
theorem spR_len {s : RS} {k : Nat} (h : s.1.length ≤ k) : (spR s).2.1.length ≤ k := numR_len (numR_len h)
set_option maxHeartbeats 1000000 in
theorem rrid_any {W w : World} {X Q : Nat → Prop} {r : Nat} {s : RS} (h : RAt W X Q r s w) (hl : s.1.length ≤ 100000) :
 Calls Tryz.prog 75 #[.pointer (some ⟨r, 0, none⟩)] w (StrPost W X Q r (.agg #[.int .i64 (spR s).1.1, .int .i64 (spR s).1.2]) (spR s).2) := by
 have hst : Still w (w.alloc (.cells #[.int .i64 0, .int .i64 0] 28)) := (Still.refl w).alloc _
 have h1 := h.still hst
 have HN := Lib.hid (rnumr_any 1 rfl h1.base (by omega) hl)
 have H := Lib.hid (And.intro h h1)
 have hbx := cellsAt_new w [.int .i64 0, .int .i64 0] 28
 have hbr : w.heap.size ≠ r := by
  obtain ⟨bv, hc, -⟩ := h.b
  have := hc.lt
  omega
 have HK := Lib.hid (fun s' w' (k : RAt (w.alloc (.cells #[.int .i64 0, .int .i64 0] 28)) (fun b => b = r) Q r s' w') => show RAt W X Q r s' w' ∧ cellsAt w' w.heap.size [.int .i64 0, .int .i64 0] from ⟨h1.back k, hbx.only k.only hbr⟩)
 have HZ := Lib.hid h.only.size
 unfold spR
 dsimp only
 generalize hq1 : numR 1 s = q1 at *
 have hl1 : q1.2.1.length ≤ 100000 := by rw [← hq1]; exact numR_len hl
 have HM := Lib.hid (fun w2 (k : RAt (w.alloc (.cells #[.int .i64 0, .int .i64 0] 28)) (fun b => b = r) Q r q1.2 w2) => rnumr_any 1 rfl k (by omega) hl1)
 generalize hq2 : numR 1 q1.2 = q2 at *
 clear h hl hl1 hq1 hq2 h1 hst hbx hbr
 go_enter Tryz.func75, Tryz.ntmps75
 go_wp2_with fail
 refine HN.out.mono ?_
 rintro e w2 ⟨rfl, k2⟩
 have HM2 := Lib.hid (HM.out _ k2)
 clear k2 HM HN
 go_wp2_with fail
 refine HM2.out.mono ?_
 rintro e w3 ⟨rfl, k3⟩
 obtain ⟨h3, hb3⟩ := HK.out _ _ k3
 have c0 := hb3.cell 0
 have f0 := hb3.free 0
 have c1 := hb3.cell 1
 have f1 := hb3.free 1
 have hz := h3.only.size
 have F := Lib.hid (show StrPost W X Q r (.agg #[.int .i64 q1.1, .int .i64 q2.1]) q2.2 (.returned (.agg #[.int .i64 q1.1, .int .i64 q2.1])) ((w3.setCell ⟨w.heap.size, 0, none⟩ (.int .i64 q1.1)).setCell ⟨w.heap.size, 1, none⟩ (.int .i64 q2.1)) from ⟨rfl, (h3.setNew HZ.out _).setNew HZ.out _⟩)
 clear k3 h3 hb3 HM2 HK hz
 go_wp2_with fail
 exact bodyPost_ret (v := .agg #[.int .i64 q1.1, .int .i64 q2.1]) (by simp [results, Tryz.results75, go_sem, c0, c1]) rfl F.out
theorem RAt.mark {W w : World} {X Q : Nat → Prop} {r : Nat} {s : RS} (h : RAt W X Q r s w) (q : Bool) : RAt W X Q r (s.1, q) (w.setCell ⟨r, 1, none⟩ (.bool q)) := by
 have hs := setCell_only w ⟨r, 1, none⟩ (.bool q)
 have hqr : ∀ g, Q g → ¬ g = r := fun g hg e => (h.qx g hg).1 (e ▸ h.rx)
 obtain ⟨bv, h1, h2, h3⟩ := h.b
 exact ⟨h.only.trans (hs.mono fun b e => by rw [show b = r from e]; exact h.rx), h.rx, h.rl, h.qx, ⟨bv, h1.setCell 1 (.bool q), h2.only hs hqr, h3⟩, h.byt⟩
set_option maxHeartbeats 1000000 in
theorem rcell_any {W w : World} {X Q : Nat → Prop} {r : Nat} {s : RS} (h : RAt W X Q r s w) (hl : s.1.length ≤ 100000) :
 Calls Tryz.prog 76 #[.pointer (some ⟨r, 0, none⟩)] w (NwPost W X Q r (fun v w' => Sl w' (fun g => w.heap.size ≤ g) 1 v (imR s).1.length (bc (imR s).1)) (imR s).2) := by
 have HN := Lib.hid (rnumr_any 1 rfl h.base (by omega) hl)
 have hr := numR_range (n := 1) h.byt
 have p1 : (256 : Int) ^ 1 = 256 := rfl
 rw [p1] at hr
 have hl1 : (numR 1 s).2.1.length ≤ 100000 := numR_len hl
 have H := Lib.hid h
 unfold imR
 generalize numR 1 s = q1 at *
 obtain ⟨z, l', sh⟩ := q1
 dsimp only at *
 have HK := Lib.hid (fun w2 (k : RAt w (fun b => b = r) Q r (l', sh) w2) => show w2.cell? ⟨r, 1, none⟩ = some (.bool sh) ∧ w2.frozen? ⟨r, 1, none⟩ = false from by
  obtain ⟨bv, hc, -⟩ := k.b
  exact ⟨hc.cell 1, hc.free 1⟩)
 have hcase : z = 0 ∨ (z = 26 ∧ sh = true) ∨ (z = 26 ∧ sh = false) ∨ (z ≠ 0 ∧ z ≠ 26) := by
  by_cases h0 : z = 0
  · exact .inl h0
  · by_cases h6 : z = 26
    · cases sh
      · exact .inr (.inr (.inl ⟨h6, rfl⟩))
      · exact .inr (.inl ⟨h6, rfl⟩)
    · exact .inr (.inr (.inr ⟨h0, h6⟩))
 rcases hcase with rfl | ⟨rfl, rfl⟩ | ⟨rfl, rfl⟩ | ⟨h0, h6⟩
 · have F := Lib.hid (fun w2 (k : RAt w (fun b => b = r) Q r (l', sh) w2) => show NwPost W X Q r (fun v w' => Sl w' (fun g => w.heap.size ≤ g) 1 v (imT (0, (l', sh))).1.length (bc (imT (0, (l', sh))).1)) (imT (0, (l', sh))).2 (.returned (.slice none 0 0)) w2 from ⟨_, rfl, Sl.nil, H.out.back k⟩)
   clear h hl hr p1 hl1
   go_enter Tryz.func76, Tryz.ntmps76
   go_wp2_with fail
   refine HN.out.mono ?_
   rintro e w2 ⟨rfl, k2⟩
   have F2 := Lib.hid (F.out _ k2)
   clear k2 HN F
   go_wp2_with fail
   go_ret
   exact F2.out
 · have F := Lib.hid (fun w2 (k : RAt w (fun b => b = r) Q r (l', true) w2) => show NwPost W X Q r (fun v w' => Sl w' (fun g => w.heap.size ≤ g) 1 v (imT (26, (l', true))).1.length (bc (imT (26, (l', true))).1)) (imT (26, (l', true))).2 (.returned (.slice none 0 0)) w2 from ⟨_, rfl, Sl.nil, H.out.back k⟩)
   clear h hl hr p1 hl1
   go_enter Tryz.func76, Tryz.ntmps76
   go_wp2_with fail
   refine HN.out.mono ?_
   rintro e w2 ⟨rfl, k2⟩
   have c1 := (HK.out _ k2).1
   have F2 := Lib.hid (F.out _ k2)
   clear k2 HN F
   go_wp2_with fail
   go_ret
   exact F2.out
 · have HT := Lib.hid (fun w2 (k : RAt w (fun b => b = r) Q r (l', false) w2) => rtake_any _ _ _ _ r 26 (l', false) k.base (by omega) hl1)
   have F := Lib.hid (fun w2 w3 v (k : RAt w (fun b => b = r) Q r (l', false) w2) (hv : Sl w3 (fun g => w2.heap.size ≤ g) 1 v 26 (bc (tkR 26 (l', false)).1)) (k3 : RAt w2 (fun b => b = r) Q r (tkR 26 (l', false)).2 w3) => show NwPost W X Q r (fun v w' => Sl w' (fun g => w.heap.size ≤ g) 1 v (imT (26, (l', false))).1.length (bc (imT (26, (l', false))).1)) (imT (26, (l', false))).2 (.returned v) w3 from by
    have e : imT (26, (l', false)) = tkR 26 (l', false) := rfl
    rw [e, tkR_length]
    exact ⟨_, rfl, hv.mono fun g hg => by have := k.only.size; omega, (H.out.back k).back k3⟩)
   clear h hl hr p1 hl1
   go_enter Tryz.func76, Tryz.ntmps76
   go_wp2_with fail
   refine HN.out.mono ?_
   rintro e w2 ⟨rfl, k2⟩
   have c1 := (HK.out _ k2).1
   have HT2 := Lib.hid (HT.out _ k2)
   have F2 := Lib.hid (fun w3 v hv k3 => F.out w2 w3 v k2 hv k3)
   clear k2 HN F HT
   go_wp2_with fail
   refine HT2.out.mono ?_
   rintro e w3 ⟨v, rfl, hv, k3⟩
   have F3 := Lib.hid (F2.out w3 v hv k3)
   obtain ⟨va, vc, rfl⟩ := hv.form
   clear hv k3 F2 HT2
   go_wp2_with fail
   go_ret
   exact F3.out
 · have F := Lib.hid (fun w2 (k : RAt w (fun b => b = r) Q r (l', sh) w2) => show NwPost W X Q r (fun v w' => Sl w' (fun g => w.heap.size ≤ g) 1 v (imT (z, (l', sh))).1.length (bc (imT (z, (l', sh))).1)) (imT (z, (l', sh))).2 (.returned (.slice none 0 0)) (w2.setCell ⟨r, 1, none⟩ (.bool true)) from by
    have e : imT (z, (l', sh)) = ([], (l', true)) := by
     unfold imT
     rw [if_neg h0, if_neg h6]
    rw [e]
    exact ⟨_, rfl, Sl.nil, (H.out.back k).mark true⟩)
   have e0 : (z == 0) = false := by rw [beq_eq_false_iff_ne]; exact h0
   have e6 : (z == 26) = false := by rw [beq_eq_false_iff_ne]; exact h6
   have n0 : (z != 0) = true := by rw [bne_iff_ne]; exact h0
   have n6 : (z != 26) = true := by rw [bne_iff_ne]; exact h6
   clear h hl hr p1 hl1
   go_enter Tryz.func76, Tryz.ntmps76
   go_wp2_with fail
   refine HN.out.mono ?_
   rintro e w2 ⟨rfl, k2⟩
   have c1 := (HK.out _ k2).1
   have f1 := (HK.out _ k2).2
   have F2 := Lib.hid (F.out _ k2)
   clear k2 HN F
   go_wp2_with fail
   go_ret
   exact F2.out
set_option maxHeartbeats 1000000 in
theorem rmany_any {W w : World} {X Q : Nat → Prop} {r : Nat} {s : RS} (h : RAt W X Q r s w) (hl : s.1.length ≤ 100000) :
 Calls Tryz.prog 78 #[.pointer (some ⟨r, 0, none⟩)] w (NuPost W X Q r (((manyR s).1 : Int), (manyR s).2)) := by
 have HN := Lib.hid (rnumr_any 1 rfl h.base (by omega) hl)
 have hr := numR_range (n := 1) h.byt
 have p1 : (256 : Int) ^ 1 = 256 := rfl
 rw [p1] at hr
 have H := Lib.hid h
 unfold manyR
 generalize numR 1 s = q1 at *
 obtain ⟨z, l', sh⟩ := q1
 dsimp only at *
 have HK := Lib.hid (fun w2 (k : RAt w (fun b => b = r) Q r (l', sh) w2) => show w2.cell? ⟨r, 1, none⟩ = some (.bool sh) ∧ w2.frozen? ⟨r, 1, none⟩ = false from by
  obtain ⟨bv, hc, -⟩ := k.b
  exact ⟨hc.cell 1, hc.free 1⟩)
 by_cases hbad : 40 < z ∨ sh = true
 · have F := Lib.hid (fun w2 (k : RAt w (fun b => b = r) Q r (l', sh) w2) => show NuPost W X Q r (((manyT (z, (l', sh))).1 : Int), (manyT (z, (l', sh))).2) (.returned (.int .i64 0)) (w2.setCell ⟨r, 1, none⟩ (.bool true)) from by
    have e : manyT (z, (l', sh)) = (0, (l', true)) := by
     unfold manyT
     rw [if_pos hbad]
    rw [e]
    exact ⟨rfl, (H.out.back k).mark true⟩)
   obtain ⟨q, hq⟩ : ∃ q, decide (40 < z) = q := ⟨_, rfl⟩
   have HQ := Lib.hid (show q = true ∨ sh = true from by
    rcases hbad with h | h
    · left; rw [← hq]; exact decide_eq_true h
    · exact .inr h)
   clear h hl hr p1 hbad
   go_enter Tryz.func78, Tryz.ntmps78
   go_wp2_with fail
   refine HN.out.mono ?_
   rintro e w2 ⟨rfl, k2⟩
   have c1 := (HK.out _ k2).1
   have f1 := (HK.out _ k2).2
   have F2 := Lib.hid (F.out _ k2)
   clear k2 HN F HK
   cases q with
   | true =>
    go_wp2_with fail
    go_ret
    exact F2.out
   | false =>
    have hs : sh = true := by rcases HQ.out with h | h; cases h; exact h
    subst hs
    go_wp2_with fail
    go_ret
    exact F2.out
 · rw [not_or] at hbad
   have hs : sh = false := by simpa using hbad.2
   subst hs
   have d1 : decide (40 < z) = false := decide_eq_false hbad.1
   have F := Lib.hid (fun w2 (k : RAt w (fun b => b = r) Q r (l', false) w2) => show NuPost W X Q r (((manyT (z, (l', false))).1 : Int), (manyT (z, (l', false))).2) (.returned (.int .i64 z)) w2 from by
    have e : manyT (z, (l', false)) = (z.toNat, (l', false)) := by
     unfold manyT
     rw [if_neg (by rintro (h | h); exact hbad.1 h; cases h)]
    rw [e]
    refine ⟨?_, H.out.back k⟩
    simp only
    rw [Int.toNat_of_nonneg hr.1])
   clear h hl hr p1 hbad
   go_enter Tryz.func78, Tryz.ntmps78
   go_wp2_with fail
   refine HN.out.mono ?_
   rintro e w2 ⟨rfl, k2⟩
   have c1 := (HK.out _ k2).1
   have F2 := Lib.hid (F.out _ k2)
   clear k2 HN F HK
   go_wp2_with fail
   go_ret
   exact F2.out
end Go.Proofs.YtojkggppcmdepaaGreat

namespace Go.Proofs.YtojkggppcmdepaaGreat
open Go.RowKit Go.Wh Go.Maps

theorem mvR_len {s : RS} {k : Nat} (h : s.1.length ≤ k) : (mvR s).2.1.length ≤ k := spR_len (spR_len h)
theorem manyR_len {s : RS} {k : Nat} (h : s.1.length ≤ k) : (manyR s).2.1.length ≤ k := by
 have h1 : (numR 1 s).2.1.length ≤ k := numR_len h
 unfold manyR manyT
 split
 · exact h1
 · exact h1
theorem manyR_le (s : RS) (_h : Byt s.1) : (manyR s).1 ≤ 40 := by
 unfold manyR manyT
 split
 · exact Nat.zero_le _
 · rename_i hc
   rw [not_or] at hc
   simp only
   omega
def Rrmv (W w : World) (X Q : Nat → Prop) (r : Nat) (R : List PMv × RS) (k : Nat) (lv : Value) (wr : World) : Prop :=
 ∃ (ls : List PMv) (s : RS), RAt W X Q r s wr ∧ s.1.length ≤ 100000 ∧ ls.length + k ≤ 255 ∧ (ls ++ (loopS mvR k s).1, (loopS mvR k s).2) = R ∧ Still' w r wr ∧ Vec wr 4 lv ls.length (ls.flatMap mvC) ∧ ∀ g, lv.ownBlock = some g → w.heap.size ≤ g ∧ g < wr.heap.size
set_option maxHeartbeats 2000000 in
set_option maxRecDepth 100000 in
theorem rmoves_any {W w : World} {X Q : Nat → Prop} {r : Nat} {s : RS} (h : RAt W X Q r s w) (hl : s.1.length ≤ 100000) :
 Calls Tryz.prog 77 #[.pointer (some ⟨r, 0, none⟩)] w (NwPost W X Q r (fun v w' => Sl w' (fun g => w.heap.size ≤ g) 4 v (readsR mvR s).1.length ((readsR mvR s).1.flatMap mvC)) (readsR mvR s).2) := by
 have HN := Lib.hid (rmany_any h.base hl)
 have hl1 : (manyR s).2.1.length ≤ 100000 := manyR_len hl
 have hn40 : (manyR s).1 ≤ 40 := manyR_le s h.byt
 have hrl := h.base.rl
 have H := Lib.hid (And.intro h hrl)
 obtain ⟨R, hR⟩ : ∃ R, readsR mvR s = R := ⟨_, rfl⟩
 rw [hR]
 unfold readsR at hR
 generalize manyR s = q1 at *
 obtain ⟨n, q⟩ := q1
 dsimp only at *
 have hnn : n ≤ 255 := by omega
 have HR := Lib.hid (And.intro hR (And.intro hl1 hnn))
 obtain ⟨i0, hi0, hz0, hz1, hz2⟩ := info_parts info_mv
 have HI := Lib.hid (And.intro hi0 (And.intro hz0 (And.intro hz1 hz2)))
 clear h hl hl1 hR hnn hn40 hrl hi0 hz0 hz1 hz2
 go_enter Tryz.func77, Tryz.ntmps77
 go_wp2_with fail
 refine HN.out.mono ?_
 rintro e w2 ⟨rfl, k2⟩
 have HST := Lib.hid (show Rrmv W w X Q r R n (.slice none 0 0) w2 from ⟨[], q, H.out.1.back k2, HR.out.2.1, by simp; exact HR.out.2.2, by rw [← HR.out.1]; rfl, k2.only, Vec.nil _ _, fun g e => by cases e⟩)
 clear HN k2
 go_wp2_with fail
 go_loopw [3, 4] (fun s5 s6 wr => ∃ k : Nat, s6 = .int .i64 k ∧ k ≤ n ∧ Rrmv W w X Q r R k s5 wr) (fun _ s6 _ => (intOf s6).toNat)
 case atStart => exact ⟨n, rfl, Nat.le_refl _, HST.out⟩
 case round =>
  clear HST
  obtain ⟨k, rfl, hk, ls, s', h3, hl3, hlen, hRR, hst, hv, hown⟩ := hrel
  obtain ⟨l', sh⟩ := s'
  dsimp only at hl3
  obtain ⟨bv, hcc, -⟩ := h3.b
  have c1 : wr.cell? ⟨r, 1, none⟩ = some (.bool sh) := hcc.cell 1
  obtain ⟨va, vc, rfl⟩ := hv.form'
  have HH := Lib.hid (And.intro h3 (And.intro hl3 (And.intro hlen (And.intro hRR (And.intro hst (And.intro hv hown))))))
  have hexit : k = 0 ∨ sh = true → NwPost W X Q r (fun v w' => Sl w' (fun g => w.heap.size ≤ g) 4 v R.1.length (R.1.flatMap mvC)) R.2 (.returned (.slice va ls.length vc)) wr := fun hx => by
   have hR2 : R = (ls, (l', sh)) := by
    rw [← hRR]
    rcases hx with rfl | rfl
    · simp [loopS]
    · cases k with
      | zero => simp [loopS]
      | succ k => simp [loopS]
   rw [hR2]
   exact ⟨_, rfl, Vec.sl hv hown, h3⟩
  have HX := Lib.hid hexit
  clear h3 hl3 hlen hRR hst hv hown hcc hexit
  by_cases hi : 0 < k
  rotate_left
  · have hk0 : k = 0 := by omega
    subst hk0
    have b1 : decide ((0 : Int) < ((0 : Nat) : Int)) = false := by decide
    have F := Lib.hid (HX.out (.inl rfl))
    clear HX
    go_wp2_with fail
    go_ret
    exact F.out
  · obtain ⟨k, rfl⟩ : ∃ j, k = j + 1 := ⟨k - 1, by omega⟩
    have b1 : decide ((0 : Int) < ((k + 1 : Nat) : Int)) = true := decide_eq_true (by omega)
    have u9 : IntKind.i64.wrap (((k + 1 : Nat) : Int) - 1) = (k : Int) := by
     have e : ((k + 1 : Nat) : Int) - 1 = (k : Int) := by omega
     rw [e]
     exact IntWalk.i64_in _ (by have := HR.out.2.2; omega)
    cases sh with
    | true =>
     have F := Lib.hid (HX.out (.inr rfl))
     clear HX
     go_wp2_with fail
     go_ret
     exact F.out
    | false =>
     have HC := Lib.hid (rrid_any HH.out.1.base HH.out.2.1)
     have hS1 : ((spR (l', false)).2).1.length ≤ 100000 := spR_len HH.out.2.1
     have hS2 : ((mvR (l', false)).2).1.length ≤ 100000 := mvR_len HH.out.2.1
     have HC2 := Lib.hid (fun (W2 : World) (X2 : Nat → Prop) w4 (k4 : RAt W2 X2 Q r (spR (l', false)).2 w4) => rrid_any k4.base hS1)
     have HLP := Lib.hid (show loopS mvR (k + 1) (l', false) = ((mvR (l', false)).1 :: (loopS mvR k (mvR (l', false)).2).1, (loopS mvR k (mvR (l', false)).2).2) from rfl)
     have hmv : mvR (l', false) = (⟨(spR (l', false)).1.1, (spR (l', false)).1.2, (spR (spR (l', false)).2).1.1, (spR (spR (l', false)).2).1.2⟩, (spR (spR (l', false)).2).2) := rfl
     rw [hmv] at HLP hS2
     generalize spR (l', false) = y1 at *
     obtain ⟨⟨p1, c1'⟩, s1⟩ := y1
     dsimp only at *
     generalize spR s1 = y2 at *
     obtain ⟨⟨p2, c2'⟩, s2⟩ := y2
     dsimp only at *
     obtain ⟨x, hx⟩ : ∃ x : PMv, x = ⟨p1, c1', p2, c2'⟩ := ⟨_, rfl⟩
     obtain ⟨rfl, rfl, rfl, rfl⟩ : p1 = x.fp ∧ c1' = x.fc ∧ p2 = x.tp ∧ c2' = x.tc := by rw [hx]; exact ⟨rfl, rfl, rfl, rfl⟩
     rw [← hx] at HLP
     have HS2 := Lib.hid hS2
     clear hmv hx hS1
     clear HX hS2
     obtain ⟨K, hK⟩ : ∃ K : Int, ((k + 1 : Nat) : Int) = K := ⟨_, rfl⟩
     rw [hK] at b1 u9 ⊢
     have HK := Lib.hid hK
     clear hK hi
     go_wp2_with fail
     refine HC.out.mono ?_
     rintro e w3 ⟨rfl, k3⟩
     have HC4 := Lib.hid (HC2.out _ _ _ k3)
     have HK3 := Lib.hid k3
     clear k3 HC HC2
     go_wp2_with fail
     refine HC4.out.mono ?_
     rintro e w4 ⟨rfl, k4'⟩
     have k4 := HK3.out.back k4'
     have hz4 := k4.only.size
     have HV4 := Lib.hid (HH.out.2.2.2.2.2.1.only k4.only fun g hg e => by have := HH.out.2.2.2.2.2.2 g hg; have := H.out.2; omega)
     have HNX0 := Lib.hid (fun ob v' w' (hv' : Vec w' 4 v' (ls.length + 1) (ls.flatMap mvC ++ [.int .i64 x.fp, .int .i64 x.fc, .int .i64 x.tp, .int .i64 x.tc])) (ho' : Only (fun k => (Value.slice va ls.length vc).ownBlock = some k) (w4.alloc ob) w') (hb' : v'.ownBlock = (Value.slice va ls.length vc).ownBlock ∨ ∃ g, v'.ownBlock = some g ∧ (w4.alloc ob).heap.size ≤ g ∧ g < w'.heap.size) => show Rrmv W w X Q r R k v' w' from by
      have hst : Still w4 (w4.alloc ob) := (Still.refl w4).alloc _
      have hzs := hst.size
      have hzo := ho'.size
      have hzw := HH.out.2.2.2.2.1.size
      have h4 := (HH.out.1.back k4).still hst
      have hrw := H.out.2
      refine ⟨ls ++ [x], s2, ?_, HS2.out, ?_, ?_, ?_, ?_, fun g hg => ?_⟩
      · obtain ⟨bv, e1, e2, e3⟩ := h4.b
        refine ⟨h4.only.andThen ho' fun i hi e => ?_, h4.rx, h4.rl, h4.qx, ⟨bv, e1.only ho' fun e => ?_, e2.only ho' fun g hg e => ?_, e3⟩, h4.byt⟩
        · have := HH.out.2.2.2.2.2.2 i e
          have := H.out.1.only.size
          omega
        · have := HH.out.2.2.2.2.2.2 r e
          omega
        · have := HH.out.2.2.2.2.2.2 g e
          have := (h4.qx g hg).2
          have := H.out.1.only.size
          omega
      · have := HH.out.2.2.1
        rw [List.length_append, List.length_singleton]
        omega
      · have := HH.out.2.2.2.1
        rw [HLP.out] at this
        rw [← this, List.append_assoc]
        rfl
      · exact ((HH.out.2.2.2.2.1.trans k4.only).trans (hst.mono fun _ e => e.elim)).andThen ho' fun i hi e => by have := HH.out.2.2.2.2.2.2 i e; omega
      · rw [List.length_append, List.length_singleton, List.flatMap_append]
        have e : [x].flatMap mvC = [.int .i64 x.fp, .int .i64 x.fc, .int .i64 x.tp, .int .i64 x.tc] := rfl
        rw [e]
        exact hv'
      · rcases hb' with e | ⟨g', e, e1, e2⟩
        · rw [e] at hg
          have := HH.out.2.2.2.2.2.2 g hg
          omega
        · rw [e] at hg
          injection hg with hg
          omega)
     clear k4 k4' hz4 HC4 HK3
     go_wp2_with (at_builtin; refine wpList_append_vec rfl _ _ 29 rfl 119 i0 _ 4 32 Tryz.underlying29 HI.out.1 HI.out.2.1 HI.out.2.2.1 HI.out.2.2.2 rfl (by decide) (.slice va ls.length vc) ls.length (ls.flatMap mvC) (by simp [Act.eval]) (HV4.out.alloc _) (.slice (some ⟨w4.heap.size, 0, none⟩) 1 1) 1 [.int .i64 x.fp, .int .i64 x.fc, .int .i64 x.tp, .int .i64 x.tc] (by simp [Act.eval]) ((cellsAt_new w4 [.int .i64 x.fp, .int .i64 x.fc, .int .i64 x.tp, .int .i64 x.tc] _).reads rfl) (by intro u hu; simp at hu; rcases hu with rfl | rfl | rfl | rfl <;> rfl) (by have := HH.out.2.2.1; simp only [maxLen]; omega) (by have := HH.out.2.2.1; omega) ?_; intro v' w' hv' ho' hb'; have HNX := Lib.hid (HNX0.out _ v' w' hv' ho' hb'); clear hv' ho' hb' HNX0)
     go_roundw
     case rel => exact ⟨k, by rfl, by omega, HNX.out⟩
     case measure => simp [intOf]; have := HK.out; omega
end Go.Proofs.YtojkggppcmdepaaGreat
