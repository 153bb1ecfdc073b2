/- The rows of PlanMoves: spots of two bytes at cells that differ, what is moved, where it comes to lie. No conditions. -/
import Derived.Test.YtpppphalacojjaaPlanRightM
import Derived.Test.YtpppphalacojjaaPlanLeastB
namespace Go.Proofs.Ytpppphalacojjaa
open Go.RowKit Go.Wh

def kz2 (a b : Int) : ByteArray := strOfNums [a, b]
theorem kz2_list (a b : Int) : (kz2 a b).toList = [UInt8.ofNat a.toNat, UInt8.ofNat b.toNat] := by
  rw [ByteArray.toList_eq]
  rfl
theorem kz2_inj {a b a' b' : Int} (b0 : 0 ≤ b) (b1 : b < 256) (c0 : 0 ≤ b') (c1 : b' < 256) (h : kz2 a b = kz2 a' b') : b = b' := by
  have h1 := congrArg ByteArray.toList h
  rw [kz2_list, kz2_list] at h1
  simp only [List.cons.injEq, and_true] at h1
  have h2 := congrArg UInt8.toNat h1.2
  rw [UInt8.toNat_ofNat', UInt8.toNat_ofNat'] at h2
  omega

def mz (zs : List Int) (i : Nat) : Int := zs.getD i 0 % 64
/-- Is a cell met among the first i? -/
def met (zs : List Int) (i : Nat) (c : Int) : Bool := (List.range i).any fun j => decide (mz zs j = c)
theorem met_iff (zs : List Int) (i : Nat) (c : Int) : met zs i c = true ↔ ∃ j, j < i ∧ mz zs j = c := by simp [met]
theorem met_next (zs : List Int) (i : Nat) (c : Int) : met zs (i + 1) c = (met zs i c || decide (mz zs i = c)) := by simp [met, List.range_succ]

def msp (zs : List Int) (i : Nat) : Spot := ⟨kz2 (zs.getD i 0 / 64 + 97) i, mz zs i / 4, mz zs i % 4⟩
def hs (zs : List Int) : Nat → List Spot
  | 0 => []
  | i + 1 => hs zs i ++ (if met zs i (mz zs i) then [] else [msp zs i])
theorem hs_len (zs : List Int) : ∀ i, (hs zs i).length ≤ i
  | 0 => Nat.le_refl _
  | i + 1 => by
    have := hs_len zs i
    unfold hs
    split <;> simp <;> omega
theorem hs_mem (zs : List Int) : ∀ i s, s ∈ hs zs i → ∃ j, j < i ∧ s = msp zs j
  | 0, s, h => by cases h
  | i + 1, s, h => by
    unfold hs at h
    rcases List.mem_append.1 h with h | h
    · obtain ⟨j, h1, h2⟩ := hs_mem zs i s h
      exact ⟨j, by omega, h2⟩
    · split at h
      · cases h
      · exact ⟨i, by omega, List.mem_singleton.1 h⟩

def sameAt (a b : Spot) : Bool := decide (a.p = b.p ∧ a.c = b.c)
def DistAt (l : List Spot) : Prop := l.Pairwise fun a b => sameAt a b = false
theorem sameAt_comm (a b : Spot) : sameAt a b = sameAt b a := by
  unfold sameAt
  rw [decide_eq_decide]
  exact ⟨fun h => ⟨h.1.symm, h.2.symm⟩, fun h => ⟨h.1.symm, h.2.symm⟩⟩
theorem sameAt_refl (a : Spot) : sameAt a a = true := by simp [sameAt]
theorem DistAt.perm {l m : List Spot} (h : DistAt l) (hp : l.Perm m) : DistAt m := (hp.pairwise_iff (fun {a b} h => by rw [sameAt_comm]; exact h)).1 h

theorem hs_distinct (zs : List Int) : ∀ i, i ≤ 40 → Distinct (hs zs i) ∧ DistAt (hs zs i)
  | 0, _ => ⟨List.Pairwise.nil, List.Pairwise.nil⟩
  | i + 1, hi => by
    obtain ⟨h1, h2⟩ := hs_distinct zs i (by omega)
    unfold hs Distinct DistAt
    constructor
    · refine List.pairwise_append.2 ⟨h1, by split <;> simp, fun a ha b hb => ?_⟩
      split at hb
      · cases hb
      · obtain ⟨j, h3, rfl⟩ := hs_mem zs i a ha
        rw [List.mem_singleton.1 hb]
        intro e
        have := kz2_inj (by omega) (by omega) (by omega) (by omega) e
        omega
    · refine List.pairwise_append.2 ⟨h2, by split <;> simp, fun a ha b hb => ?_⟩
      split at hb
      · cases hb
      · rename_i hn
        obtain ⟨j, h3, rfl⟩ := hs_mem zs i a ha
        rw [List.mem_singleton.1 hb]
        unfold sameAt msp
        simp only [decide_eq_false_iff_not]
        rintro ⟨e1, e2⟩
        exact hn ((met_iff _ _ _).2 ⟨j, h3, by omega⟩)

/-- Where spots come to lie, from place d on. -/
def thr : Nat → List Spot → List Spot
  | _, [] => []
  | d, s :: l => ⟨s.key, 16 + (d : Int) / 3, (d : Int) % 3⟩ :: thr (d + 1) l
theorem thr_len : ∀ (d : Nat) (l : List Spot), (thr d l).length = l.length
  | _, [] => rfl
  | d, s :: l => by simp [thr, thr_len (d + 1) l]
theorem thr_snoc : ∀ (d : Nat) (l : List Spot) (s : Spot), thr d (l ++ [s]) = thr d l ++ [⟨s.key, 16 + ((d + l.length : Nat) : Int) / 3, ((d + l.length : Nat) : Int) % 3⟩]
  | d, [], s => by simp [thr]
  | d, t :: l, s => by
    show _ :: thr (d + 1) (l ++ [s]) = _
    rw [thr_snoc (d + 1) l s]
    have e : d + 1 + l.length = d + (t :: l).length := by simp; omega
    rw [e]
    rfl
theorem thr_get : ∀ (d : Nat) (l : List Spot) (i : Nat), (thr d l)[i]? = (l[i]?).map fun s => ⟨s.key, 16 + ((d + i : Nat) : Int) / 3, ((d + i : Nat) : Int) % 3⟩
  | _, [], i => by simp [thr]
  | d, s :: l, 0 => by simp [thr]
  | d, s :: l, i + 1 => by
    show (thr (d + 1) l)[i]? = _
    rw [thr_get (d + 1) l i]
    have e : d + 1 + i = d + (i + 1) := by omega
    rw [e]
    rfl
theorem thr_keys (d : Nat) (l : List Spot) : (thr d l).map Spot.key = l.map Spot.key := by
  apply List.ext_getElem?
  intro i
  rw [List.getElem?_map, List.getElem?_map, thr_get]
  cases l[i]? <;> rfl
theorem keys_pair {l m : List Spot} (h : l.map Spot.key = m.map Spot.key) {R : ByteArray → ByteArray → Prop} (hl : l.Pairwise fun a b => R a.key b.key) : m.Pairwise fun a b => R a.key b.key := by
  have h1 : (l.map Spot.key).Pairwise R := List.pairwise_map.2 hl
  rw [h] at h1
  exact List.pairwise_map.1 h1
theorem thr_sorted {d : Nat} {l : List Spot} (h : Sorted l) : Sorted (thr d l) := keys_pair (R := fun a b => bl b a = false) (thr_keys d l).symm h
theorem thr_distinct {d : Nat} {l : List Spot} (h : Distinct l) : Distinct (thr d l) := keys_pair (R := fun a b => a ≠ b) (thr_keys d l).symm h

/-- Free cells from place d on. -/
def fre (d c : Nat) : List Rid := (List.range c).map fun t => (⟨16 + ((d + t : Nat) : Int) / 3, ((d + t : Nat) : Int) % 3⟩ : Rid)
theorem fre_len (d c : Nat) : (fre d c).length = c := by simp [fre]
theorem fre_next (d c : Nat) : fre d (c + 1) = fre d c ++ [⟨16 + ((d + c : Nat) : Int) / 3, ((d + c : Nat) : Int) % 3⟩] := by simp [fre, List.range_succ]
theorem fre_at (d c i : Nat) (h : i < (fre d c).length) : (fre d c)[i] = ⟨16 + ((d + i : Nat) : Int) / 3, ((d + i : Nat) : Int) % 3⟩ := by simp [fre]

/-- One is taken out. -/
theorem take_out {H D : List Spot} {x : Spot} (hp : H.Perm (x :: D)) (hd : DistAt H) : H.filter (sameAt x) = [x] ∧ (H.filter fun s => !sameAt x s).Perm D := by
  have hd2 := List.pairwise_cons.1 (hd.perm hp)
  have h1 : ∀ s ∈ D, sameAt x s = false := hd2.1
  have e1 : D.filter (sameAt x) = [] := List.filter_eq_nil_iff.2 (fun s hs => by rw [h1 s hs]; simp)
  have e2 : D.filter (fun s => !sameAt x s) = D := List.filter_eq_self.2 (fun s hs => by rw [h1 s hs]; rfl)
  constructor
  · have := hp.filter (sameAt x)
    rw [List.filter_cons, if_pos (sameAt_refl x), e1] at this
    exact List.perm_singleton.1 this
  · have := hp.filter (fun s => !sameAt x s)
    rw [List.filter_cons, if_neg (by simp [sameAt_refl]), e2] at this
    exact this

theorem filter_take_next {l : List Spot} (p : Spot → Bool) {j : Nat} (hj : j < l.length) : (l.take (j + 1)).filter p = (l.take j).filter p ++ (if p l[j] then [l[j]] else []) := by
  rw [List.take_succ_eq_append_getElem hj, List.filter_append]
  congr 1
  rw [List.filter_cons]
  split <;> rfl

/-- Where one is met, none ahead of it is. -/
theorem none_ahead {H : List Spot} (hd : DistAt H) {x : Spot} {j : Nat} (hj : j < H.length) (h : sameAt x H[j] = true) : (H.take j).filter (sameAt x) = [] := by
  rw [List.filter_eq_nil_iff]
  intro s hs
  obtain ⟨i, hi, rfl⟩ := List.mem_iff_getElem.1 hs
  simp at hi
  rw [List.getElem_take]
  have h1 := (List.pairwise_iff_getElem.1 hd) i j (by omega) hj (by omega)
  intro h2
  unfold sameAt at h h1 h2
  simp only [decide_eq_true_eq, decide_eq_false_iff_not] at h h1 h2
  exact h1 ⟨h2.1.symm.trans h.1, h2.2.symm.trans h.2⟩

/-- The whole state of the moves: T has been moved, H has not. -/
structure Mvd (h0 T H : List Spot) : Prop where
  perm : (T ++ H).Perm h0
  sorted : Sorted T
  cross : ∀ u ∈ T, ∀ v ∈ H, le u v

theorem Mvd.start (h0 : List Spot) : Mvd h0 [] h0 := ⟨List.Perm.refl _, List.Pairwise.nil, fun _ h => by cases h⟩
theorem Mvd.step {h0 T H L H' : List Spot} (h : Mvd h0 T H) (hp : L.Perm H) (hs : Sorted L) (q : Nat) (hH : H'.Perm (L.drop q)) : Mvd h0 (T ++ L.take q) H' := by
  have e : L.take q ++ L.drop q = L := List.take_append_drop q L
  have hs' : Sorted (L.take q ++ L.drop q) := by rw [e]; exact hs
  refine ⟨?_, sorted_app h.sorted (sorted_left hs') (fun u hu v hv => h.cross u hu v (hp.mem_iff.1 (List.mem_of_mem_take hv))), fun u hu v hv => ?_⟩
  · refine List.Perm.trans ?_ h.perm
    rw [List.append_assoc]
    refine List.Perm.append_left T ?_
    refine (List.Perm.append_left _ hH).trans ?_
    rw [e]
    exact hp
  · have hv' := hH.mem_iff.1 hv
    rcases List.mem_append.1 hu with hu | hu
    · exact h.cross u hu v (hp.mem_iff.1 (List.mem_of_mem_drop hv'))
    · exact sorted_cross hs' u hu v hv'

theorem Mvd.right {h0 T : List Spot} (h : Mvd h0 T []) : T.Perm h0 := by simpa using h.perm

theorem thr_right {T : List Spot} {l' : List Spot} (hd : Distinct T) (hs : Sorted T) (hp : l'.Perm (thr 0 T)) (hs' : Sorted l') : AllAt 1 l' := by
  have e : thr 0 T = l' := sorted_unique hp.symm (thr_sorted hs) hs' (thr_distinct hd)
  rw [← e]
  intro i s hi
  rw [thr_get] at hi
  cases hT : T[i]? with
  | none => rw [hT] at hi; cases hi
  | some t =>
    rw [hT] at hi
    injection hi with hi
    rw [← hi]
    simp [okAt]

theorem right_thr (T : List Spot) (v : Value) (w : World) (hd : Distinct T) (hs : Sorted T) (hl : T.length ≤ 48) (hv : Vec w 3 v T.length (flat (thr 0 T))) :
    Calls Try.prog 10 #[v, .int .i64 1] w (BTrue w) := by
  have hl' : (thr 0 T).length = T.length := thr_len 0 T
  refine (right_of (thr 0 T) v 1 w (.inr rfl) (sorted_any v _ _ w (by rw [hl']; exact hv.reads) (by omega)) (thr_distinct hd) (by omega)).mono ?_
  rintro e w' ⟨l', hp, hs', hb, h1 | h1⟩
  · exact ⟨h1.1, hb⟩
  · exact absurd (thr_right hd hs hp hs') h1.2

/-- Slices that share no block. -/
def Disj (a b : Value) : Prop := ∀ g, a.ownBlock = some g → b.ownBlock ≠ some g
theorem Disj.symm {a b : Value} (h : Disj a b) : Disj b a := fun g hb ha => h g ha hb
structure Apart (B : Nat) (w : World) (l : List Value) : Prop where
  pw : l.Pairwise Disj
  lies : ∀ u ∈ l, ∀ g, u.ownBlock = some g → B ≤ g ∧ g < w.heap.size
theorem Apart.grow {B : Nat} {w w' : World} {l : List Value} (h : Apart B w l) (hs : w.heap.size ≤ w'.heap.size) : Apart B w' l := ⟨h.pw, fun u hu g hg => by have := h.lies u hu g hg; omega⟩
theorem Apart.perm {B : Nat} {w : World} {l m : List Value} (h : Apart B w l) (hp : l.Perm m) : Apart B w m := ⟨(hp.pairwise_iff (fun {_ _} h => Disj.symm h)).1 h.pw, fun u hu => h.lies u (hp.mem_iff.2 hu)⟩
theorem Apart.nil_cons {B : Nat} {w : World} {l : List Value} (h : Apart B w l) : Apart B w (.slice none 0 0 :: l) := ⟨List.pairwise_cons.2 ⟨fun _ _ g hg => (by cases hg), h.pw⟩, fun u hu g hg => by
  rcases List.mem_cons.1 hu with rfl | hu
  · cases hg
  · exact h.lies u hu g hg⟩
theorem Apart.tail {B : Nat} {w : World} {v : Value} {l : List Value} (h : Apart B w (v :: l)) : Apart B w l := ⟨(List.pairwise_cons.1 h.pw).2, fun u hu => h.lies u (by simp [hu])⟩
theorem Apart.app {B : Nat} {w w' : World} {v v' : Value} {l : List Value} (h : Apart B w (v :: l)) (hB : B ≤ w.heap.size) (ho : w.heap.size ≤ w'.heap.size) (hb : v'.ownBlock = v.ownBlock ∨ ∃ g, v'.ownBlock = some g ∧ w.heap.size ≤ g ∧ g < w'.heap.size) : Apart B w' (v' :: l) := by
  obtain ⟨h1, h2⟩ := List.pairwise_cons.1 h.pw
  refine ⟨List.pairwise_cons.2 ⟨fun u hu g hg => ?_, h2⟩, fun u hu g hg => ?_⟩
  · rcases hb with e | ⟨g', e, h3, _⟩
    · exact h1 u hu g (e.symm.trans hg)
    · intro hug
      have := (h.lies u (by simp [hu]) g hug).2
      rw [e] at hg
      injection hg with hg
      omega
  · rcases List.mem_cons.1 hu with rfl | hu
    · rcases hb with e | ⟨g', e, h3, h4⟩
      · have := h.lies v (by simp) g (e.symm.trans hg)
        omega
      · rw [e] at hg
        injection hg with hg
        omega
    · have := h.lies u (by simp [hu]) g hg
      omega
/-- The others stand. -/
theorem Apart.kept {B : Nat} {w w' : World} {v : Value} {l : List Value} (h : Apart B w (v :: l)) (ho : Only (fun k => v.ownBlock = some k) w w') {u : Value} (hu : u ∈ l) {size n : Nat} {xs : List Value} (hv : Vec w size u n xs) : Vec w' size u n xs :=
  hv.only ho (fun g hg e => (List.pairwise_cons.1 h.pw).1 u hu g e hg)
theorem Apart.below {B : Nat} {W w w' : World} {v : Value} {l : List Value} (h : Apart B w (v :: l)) (hb : Below B W w) (hB : B ≤ w.heap.size) (ho : Only (fun k => v.ownBlock = some k) w w') : Below B W w' :=
  hb.trans (ho.below hB (fun i hi e => by have := (h.lies v (by simp) i e).1; omega))
end Go.Proofs.Ytpppphalacojjaa
