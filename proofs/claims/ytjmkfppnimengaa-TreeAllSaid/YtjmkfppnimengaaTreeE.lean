/- A tree in memory: nodes whose children are trees, all blocks apart. No conditions. -/
import Derived.Test.YtjmkfppnimengaaTreeN
namespace Go.Proofs.Ytjmkfppnimengaa
open Go.RowKit Go.Wh

/-- What stands by a key at a level: a place in a leaf, a node above. -/
def E : Nat → Type
  | 0 => Rid
  | d + 1 => List (Key × E d)

/-- A node of level d. -/
abbrev Nd (d : Nat) := List (Key × E d)

/-- The places of a leaf; the children of a node above. -/
def vals (l : Nd 0) : List Rid := l.map fun x => x.2
def subs {d : Nat} (l : Nd (d + 1)) : List (Nd d) := l.map fun x => x.2
theorem vals_length (l : Nd 0) : (vals l).length = l.length := List.length_map _
theorem vals_take (l : Nd 0) (m : Nat) : (vals l).take m = vals (l.take m) := (List.map_take ..).symm
theorem vals_drop (l : Nd 0) (m : Nat) : (vals l).drop m = vals (l.drop m) := (List.map_drop ..).symm
theorem vals_append (a b : Nd 0) : vals (a ++ b) = vals a ++ vals b := List.map_append
theorem subs_length {d : Nat} (l : Nd (d + 1)) : (subs l).length = l.length := List.length_map _
theorem subs_append {d : Nat} (a b : Nd (d + 1)) : subs (a ++ b) = subs a ++ subs b := List.map_append
theorem subs_cons {d : Nat} (k : Key) (c : Nd d) (l : Nd (d + 1)) : subs ((k, c) :: l) = c :: subs l := rfl
def keys {d : Nat} (l : Nd d) : List Key := l.map fun x => x.1
theorem keys_length {d : Nat} (l : Nd d) : (keys l).length = l.length := List.length_map _
theorem keys_append {d : Nat} (a b : Nd d) : keys (a ++ b) = keys a ++ keys b := List.map_append
theorem keys_take {d : Nat} (l : Nd d) (m : Nat) : (keys l).take m = keys (l.take m) := (List.map_take ..).symm
theorem keys_drop {d : Nat} (l : Nd d) (m : Nat) : (keys l).drop m = keys (l.drop m) := (List.map_drop ..).symm

inductive Sons {α : Type} (R : Nat → α → List Nat → Prop) : List Nat → List α → List (List Nat) → Prop
  | nil : Sons R [] [] []
  | cons {r : Nat} {a : α} {f : List Nat} {rs : List Nat} {us : List α} {fs : List (List Nat)} : R r a f → Sons R rs us fs → Sons R (r :: rs) (a :: us) (f :: fs)

section
variable {α : Type} {R R' : Nat → α → List Nat → Prop}

theorem Sons.lenR {rs : List Nat} {us : List α} {fs : List (List Nat)} (h : Sons R rs us fs) : rs.length = us.length := by
  induction h with
  | nil => rfl
  | cons _ _ ih => simp [ih]
theorem Sons.lenF {rs : List Nat} {us : List α} {fs : List (List Nat)} (h : Sons R rs us fs) : fs.length = us.length := by
  induction h with
  | nil => rfl
  | cons _ _ ih => simp [ih]
theorem Sons.imp {rs : List Nat} {us : List α} {fs : List (List Nat)} (h : Sons R rs us fs) (hi : ∀ r a f, f ∈ fs → R r a f → R' r a f) : Sons R' rs us fs := by
  induction h with
  | nil => exact .nil
  | cons h1 _ ih => exact .cons (hi _ _ _ (by simp) h1) (ih fun r a f hf => hi r a f (by simp [hf]))
theorem Sons.append {rs qs : List Nat} {us bs : List α} {fs gs : List (List Nat)} (h : Sons R rs us fs) (h' : Sons R qs bs gs) : Sons R (rs ++ qs) (us ++ bs) (fs ++ gs) := by
  induction h with
  | nil => exact h'
  | cons h1 _ ih => exact .cons h1 ih
/-- A row of children parted. -/
theorem Sons.part {us bs : List α} : ∀ {rs : List Nat} {fs : List (List Nat)}, Sons R rs (us ++ bs) fs → ∃ r1 r2 f1 f2, rs = r1 ++ r2 ∧ fs = f1 ++ f2 ∧ Sons R r1 us f1 ∧ Sons R r2 bs f2 := by
  induction us with
  | nil => exact fun h => ⟨[], _, [], _, rfl, rfl, .nil, h⟩
  | cons a us ih =>
    intro rs fs h
    cases h with
    | cons h1 h2 =>
      obtain ⟨r1, r2, f1, f2, rfl, rfl, h3, h4⟩ := ih h2
      exact ⟨_ :: r1, r2, _ :: f1, f2, rfl, rfl, .cons h1 h3, h4⟩
theorem Sons.one {r : Nat} {a : α} {f : List Nat} (h : R r a f) : Sons R [r] [a] [f] := .cons h .nil
theorem Sons.get1 {a : α} {rs : List Nat} {fs : List (List Nat)} (h : Sons R rs [a] fs) : ∃ r f, rs = [r] ∧ fs = [f] ∧ R r a f := by
  cases h with
  | cons h1 h2 =>
    cases h2
    exact ⟨_, _, rfl, rfl, h1⟩
theorem Sons.all {P : List Nat → Prop} {rs : List Nat} {us : List α} {fs : List (List Nat)} (h : Sons R rs us fs) (hp : ∀ r a f, R r a f → P f) : ∀ f ∈ fs, P f := by
  induction h with
  | nil => intro f hf; cases hf
  | cons h1 _ ih =>
    intro f hf
    simp at hf
    rcases hf with rfl | hf
    · exact hp _ _ _ h1
    · exact ih f hf
end

/-- A node of level d with all below it. -/
def At : (d : Nat) → World → Nat → Nd d → List Nat → Prop
  | 0, w, r, l, F => Raw w r (keys l) (vals l) [] F
  | d + 1, w, r, l, F => ∃ rs F0 Fs, Raw w r (keys l) [] rs F0 ∧ Sons (At d w) rs (subs l) Fs ∧ F = F0 ++ Fs.flatten ∧ F.Nodup

theorem At.lt : ∀ {d : Nat} {w : World} {r : Nat} {l : Nd d} {F : List Nat}, At d w r l F → ∀ b ∈ F, b < w.heap.size
  | 0, _, _, _, _, h => Raw.lt h
  | d + 1, w, _, _, _, ⟨_, _, _, h1, h2, h3, _⟩ => by
    intro b hb
    subst h3
    rcases List.mem_append.1 hb with hb | hb
    · exact h1.lt b hb
    · obtain ⟨f, hf, hbf⟩ := List.mem_flatten.1 hb
      exact h2.all (P := fun f => ∀ b ∈ f, b < w.heap.size) (fun _ _ _ h => At.lt h) f hf b hbf

theorem At.nodup : ∀ {d : Nat} {w : World} {r : Nat} {l : Nd d} {F : List Nat}, At d w r l F → F.Nodup
  | 0, _, _, _, _, h => Raw.nodup h
  | _ + 1, _, _, _, _, ⟨_, _, _, _, _, _, h⟩ => h

theorem At.only : ∀ {d : Nat} {w w' : World} {r : Nat} {l : Nd d} {F : List Nat} {S : Nat → Prop}, At d w r l F → Only S w w' → (∀ b ∈ F, ¬ S b) → At d w' r l F
  | 0, _, _, _, _, _, _, h, ho, hs => Raw.only h ho hs
  | _ + 1, _, _, _, _, _, _, ⟨rs, F0, Fs, h1, h2, h3, h4⟩, ho, hs => by
    subst h3
    exact ⟨rs, F0, Fs, h1.only ho fun b hb => hs b (by simp [hb]), h2.imp fun r a f hf h => At.only h ho fun b hb => hs b (List.mem_append_right _ (List.mem_flatten.2 ⟨f, hf, hb⟩)), rfl, h4⟩

theorem At.self : ∀ {d : Nat} {w : World} {r : Nat} {l : Nd d} {F : List Nat}, At d w r l F → r ∈ F
  | 0, _, _, _, _, h => Raw.self h
  | _ + 1, _, _, _, _, ⟨_, _, _, h1, _, h3, _⟩ => by
    subst h3
    simp [h1.self]

/-- The node alone. -/
theorem At.raw : ∀ {d : Nat} {w : World} {r : Nat} {l : Nd d} {F : List Nat}, At d w r l F → ∃ vs cs F0, Raw w r (keys l) vs cs F0 ∧ max cs.length vs.length = l.length ∧ (cs = [] ∨ vs = []) ∧ ∀ b ∈ F0, b ∈ F
  | 0, _, _, l, F, h => ⟨_, _, F, h, (Nat.zero_max _).trans (vals_length _), .inl rfl, fun _ h => h⟩
  | _ + 1, _, _, _, _, ⟨rs, F0, Fs, h1, h2, h3, _⟩ => ⟨_, _, F0, h1, (Nat.max_zero _).trans (h2.lenR.trans (subs_length _)), .inr rfl, fun b hb => by rw [h3]; simp [hb]⟩

/-- A node of children, in the making: what its own pointers are, and which children there are. -/
structure Inr (d : Nat) (w : World) (r : Nat) (ks : List Key) (qs rs : List Nat) (cs : List (Nd d)) (F0 : List Nat) (Fs : List (List Nat)) : Prop where
  raw : Raw w r ks [] qs F0
  kids : Sons (At d w) rs cs Fs
  nd : (F0 ++ Fs.flatten).Nodup

theorem At.inr {d : Nat} {w : World} {r : Nat} {l : Nd (d + 1)} {F : List Nat} (h : At (d + 1) w r l F) : ∃ rs F0 Fs, Inr d w r (keys l) rs rs (subs l) F0 Fs ∧ F = F0 ++ Fs.flatten := by
  obtain ⟨rs, F0, Fs, h1, h2, h3, h4⟩ := h
  exact ⟨rs, F0, Fs, ⟨h1, h2, h3 ▸ h4⟩, h3⟩
theorem Inr.at {d : Nat} {w : World} {r : Nat} {l : Nd (d + 1)} {rs F0 : List Nat} {Fs : List (List Nat)} (h : Inr d w r (keys l) rs rs (subs l) F0 Fs) : At (d + 1) w r l (F0 ++ Fs.flatten) :=
  ⟨rs, F0, Fs, h.raw, h.kids, rfl, h.nd⟩

/-- Some blocks turn into others: those that stay, and new ones. -/
theorem nodup_turn {A M M' B : List Nat} {N : Nat} (h : (A ++ (M ++ B)).Nodup) (hm : M'.Nodup) (hlt : ∀ b ∈ A ++ B, b < N) (ht : ∀ b ∈ M', b ∈ M ∨ N ≤ b) : (A ++ (M' ++ B)).Nodup := by
  rw [List.nodup_append] at h ⊢
  obtain ⟨h1, h2, h3⟩ := h
  rw [List.nodup_append] at h2 ⊢
  obtain ⟨h4, h5, h6⟩ := h2
  refine ⟨h1, ⟨hm, h5, fun a ha b hb => ?_⟩, fun a ha b hb => ?_⟩
  · rcases ht a ha with h | h
    · exact h6 a h b hb
    · have := hlt b (by simp [hb]); omega
  · rcases List.mem_append.1 hb with hb | hb
    · rcases ht b hb with h | h
      · exact h3 a ha b (by simp [h])
      · have := hlt a (by simp [ha]); omega
    · exact h3 a ha b (by simp [hb])

theorem Inr.lt {d : Nat} {w : World} {r : Nat} {ks : List Key} {qs rs : List Nat} {cs : List (Nd d)} {F0 : List Nat} {Fs : List (List Nat)} (h : Inr d w r ks qs rs cs F0 Fs) : ∀ b ∈ F0 ++ Fs.flatten, b < w.heap.size := by
  intro b hb
  rcases List.mem_append.1 hb with hb | hb
  · exact h.raw.lt b hb
  · obtain ⟨f, hf, hbf⟩ := List.mem_flatten.1 hb
    exact h.kids.all (P := fun f => ∀ b ∈ f, b < w.heap.size) (fun _ _ _ h => At.lt h) f hf b hbf

/-- The node's own row turns. -/
theorem Inr.rawTurn {d : Nat} {w w' : World} {r : Nat} {ks ks' : List Key} {qs qs' rs : List Nat} {cs : List (Nd d)} {F0 F0' : List Nat} {Fs : List (List Nat)} (h : Inr d w r ks qs rs cs F0 Fs)
    (hr : Raw w' r ks' [] qs' F0') (ho : Only (fun b => b ∈ F0) w w') (ht : ∀ b ∈ F0', b ∈ F0 ∨ w.heap.size ≤ b) : Inr d w' r ks' qs' rs cs F0' Fs := by
  refine ⟨hr, h.kids.imp fun r a f hf h' => h'.only ho fun b hb hb0 => ?_, ?_⟩
  · exact (List.nodup_append.1 h.nd).2.2 b hb0 b (List.mem_flatten.2 ⟨f, hf, hb⟩) rfl
  · have := nodup_turn (A := []) (M := F0) (M' := F0') (B := Fs.flatten) (N := w.heap.size) (by simpa using h.nd) hr.nodup (fun b hb => h.lt b (by simp at hb; simp [hb])) ht
    simpa using this

/-- Some of the children turn. -/
theorem Inr.turn {d : Nat} {w w' : World} {r : Nat} {ks : List Key} {qs ra rm rb rm' : List Nat} {A M B M' : List (Nd d)} {F0 : List Nat} {Fa Fm Fb Fm' : List (List Nat)} (h : Inr d w r ks qs (ra ++ (rm ++ rb)) (A ++ (M ++ B)) F0 (Fa ++ (Fm ++ Fb)))
    (la : Sons (At d w) ra A Fa) (lb : Sons (At d w) rb B Fb) (hm : Sons (At d w') rm' M' Fm') (hn : Fm'.flatten.Nodup) (ho : Only (fun b => b ∈ Fm.flatten) w w') (ht : ∀ b ∈ Fm'.flatten, b ∈ Fm.flatten ∨ w.heap.size ≤ b) :
    Inr d w' r ks qs (ra ++ (rm' ++ rb)) (A ++ (M' ++ B)) F0 (Fa ++ (Fm' ++ Fb)) := by
  have hnd := h.nd
  have hlt := h.lt
  simp only [List.flatten_append] at hnd hlt
  have h1 := List.nodup_append.1 hnd
  have h2 := List.nodup_append.1 h1.2.1
  have h3 := List.nodup_append.1 h2.2.1
  refine ⟨h.raw.only ho fun b hb hm => h1.2.2 b hb b (by simp [List.mem_flatten.1 hm]) rfl, (la.imp fun r a f hf h' => h'.only ho fun b hb hm => ?_).append (hm.append (lb.imp fun r a f hf h' => h'.only ho fun b hb hm => ?_)), ?_⟩
  · exact h2.2.2 b (List.mem_flatten.2 ⟨f, hf, hb⟩) b (List.mem_append_left _ hm) rfl
  · exact h3.2.2 b hm b (List.mem_flatten.2 ⟨f, hf, hb⟩) rfl
  · simp only [List.flatten_append]
    rw [← List.append_assoc]
    refine nodup_turn (M := Fm.flatten) (N := w.heap.size) (by rw [List.append_assoc]; exact hnd) hn (fun b hb => hlt b ?_) ht
    simp only [List.mem_append] at hb ⊢
    rcases hb with (h | h) | h
    · exact .inl h
    · exact .inr (.inl h)
    · exact .inr (.inr (.inr h))
end Go.Proofs.Ytjmkfppnimengaa
