/- A tree in memory: nodes whose children are trees, all blocks apart. No conditions. Search in a sorted row of keys. Conditions: a row that can be read, sorted. A node's size, and which child a key belongs to. Conditions: a node in memory. slices.Clone, Insert, Delete of the library, at one kind of element. Conditions: a slice that may be written, not too long. -/
import Derived.Test.YtedfijmaeoednaaGreatDoorBx01
import Derived.Test.YtedfijmaeoednaaGreatDoorRows
import Derived.WalkKit
import Derived.WalkSpells
import Derived.WalkLawsBesides
import Derived.Deep.QuietTactic
import Derived.BigQuiet
import Derived.StillTailTactics
import Derived.Lib.Hide
import Derived.Deep.RegionLaw
import Derived.Lib.Walk
import Derived.Shelf.Spec.SlicesInsert
namespace Go.Proofs.YtedfijmaeoednaaGreatDoor
open Go.RowKit Go.Wh

/-- What stands by a key at a level: a place in a leaf, a node above. -/
def E : Nat → Type
  | 0 => Rid
  | d + 1 => List (Key × E d)

/-- A node of level d. -/
abbrev Nd (d : Nat) := List (Key × E d)

/-- The places of a leaf; the children of a node above. -/
def vals (l : Nd 0) : List Rid := l.map fun x => x.2
def subs {d : Nat} (l : Nd (d + 1)) : List (Nd d) := l.map fun x => x.2
theorem vals_length (l : Nd 0) : (vals l).length = l.length := List.length_map _
theorem vals_take (l : Nd 0) (m : Nat) : (vals l).take m = vals (l.take m) := (List.map_take ..).symm
theorem vals_drop (l : Nd 0) (m : Nat) : (vals l).drop m = vals (l.drop m) := (List.map_drop ..).symm
theorem vals_append (a b : Nd 0) : vals (a ++ b) = vals a ++ vals b := List.map_append
theorem subs_length {d : Nat} (l : Nd (d + 1)) : (subs l).length = l.length := List.length_map _
theorem subs_append {d : Nat} (a b : Nd (d + 1)) : subs (a ++ b) = subs a ++ subs b := List.map_append
theorem subs_cons {d : Nat} (k : Key) (c : Nd d) (l : Nd (d + 1)) : subs ((k, c) :: l) = c :: subs l := rfl
def keys {d : Nat} (l : Nd d) : List Key := l.map fun x => x.1
theorem keys_length {d : Nat} (l : Nd d) : (keys l).length = l.length := List.length_map _
theorem keys_append {d : Nat} (a b : Nd d) : keys (a ++ b) = keys a ++ keys b := List.map_append
theorem keys_take {d : Nat} (l : Nd d) (m : Nat) : (keys l).take m = keys (l.take m) := (List.map_take ..).symm
theorem keys_drop {d : Nat} (l : Nd d) (m : Nat) : (keys l).drop m = keys (l.drop m) := (List.map_drop ..).symm

inductive Sons {α : Type} (R : Nat → α → List Nat → Prop) : List Nat → List α → List (List Nat) → Prop
  | nil : Sons R [] [] []
  | cons {r : Nat} {a : α} {f : List Nat} {rs : List Nat} {us : List α} {fs : List (List Nat)} : R r a f → Sons R rs us fs → Sons R (r :: rs) (a :: us) (f :: fs)

section
variable {α : Type} {R R' : Nat → α → List Nat → Prop}

theorem Sons.lenR {rs : List Nat} {us : List α} {fs : List (List Nat)} (h : Sons R rs us fs) : rs.length = us.length := by
  induction h with
  | nil => rfl
  | cons _ _ ih => simp [ih]
theorem Sons.lenF {rs : List Nat} {us : List α} {fs : List (List Nat)} (h : Sons R rs us fs) : fs.length = us.length := by
  induction h with
  | nil => rfl
  | cons _ _ ih => simp [ih]
theorem Sons.imp {rs : List Nat} {us : List α} {fs : List (List Nat)} (h : Sons R rs us fs) (hi : ∀ r a f, f ∈ fs → R r a f → R' r a f) : Sons R' rs us fs := by
  induction h with
  | nil => exact .nil
  | cons h1 _ ih => exact .cons (hi _ _ _ (by simp) h1) (ih fun r a f hf => hi r a f (by simp [hf]))
theorem Sons.append {rs qs : List Nat} {us bs : List α} {fs gs : List (List Nat)} (h : Sons R rs us fs) (h' : Sons R qs bs gs) : Sons R (rs ++ qs) (us ++ bs) (fs ++ gs) := by
  induction h with
  | nil => exact h'
  | cons h1 _ ih => exact .cons h1 ih
/-- A row of children parted. -/
theorem Sons.part {us bs : List α} : ∀ {rs : List Nat} {fs : List (List Nat)}, Sons R rs (us ++ bs) fs → ∃ r1 r2 f1 f2, rs = r1 ++ r2 ∧ fs = f1 ++ f2 ∧ Sons R r1 us f1 ∧ Sons R r2 bs f2 := by
  induction us with
  | nil => exact fun h => ⟨[], _, [], _, rfl, rfl, .nil, h⟩
  | cons a us ih =>
    intro rs fs h
    cases h with
    | cons h1 h2 =>
      obtain ⟨r1, r2, f1, f2, rfl, rfl, h3, h4⟩ := ih h2
      exact ⟨_ :: r1, r2, _ :: f1, f2, rfl, rfl, .cons h1 h3, h4⟩
theorem Sons.one {r : Nat} {a : α} {f : List Nat} (h : R r a f) : Sons R [r] [a] [f] := .cons h .nil
theorem Sons.get1 {a : α} {rs : List Nat} {fs : List (List Nat)} (h : Sons R rs [a] fs) : ∃ r f, rs = [r] ∧ fs = [f] ∧ R r a f := by
  cases h with
  | cons h1 h2 =>
    cases h2
    exact ⟨_, _, rfl, rfl, h1⟩
theorem Sons.all {P : List Nat → Prop} {rs : List Nat} {us : List α} {fs : List (List Nat)} (h : Sons R rs us fs) (hp : ∀ r a f, R r a f → P f) : ∀ f ∈ fs, P f := by
  induction h with
  | nil => intro f hf; cases hf
  | cons h1 _ ih =>
    intro f hf
    simp at hf
    rcases hf with rfl | hf
    · exact hp _ _ _ h1
    · exact ih f hf
end

/-- A node of level d with all below it. -/
def At : (d : Nat) → World → Nat → Nd d → List Nat → Prop
  | 0, w, r, l, F => Raw w r (keys l) (vals l) [] F
  | d + 1, w, r, l, F => ∃ rs F0 Fs, Raw w r (keys l) [] rs F0 ∧ Sons (At d w) rs (subs l) Fs ∧ F = F0 ++ Fs.flatten ∧ F.Nodup

theorem At.lt : ∀ {d : Nat} {w : World} {r : Nat} {l : Nd d} {F : List Nat}, At d w r l F → ∀ b ∈ F, b < w.heap.size
  | 0, _, _, _, _, h => Raw.lt h
  | d + 1, w, _, _, _, ⟨_, _, _, h1, h2, h3, _⟩ => by
    intro b hb
    subst h3
    rcases List.mem_append.1 hb with hb | hb
    · exact h1.lt b hb
    · obtain ⟨f, hf, hbf⟩ := List.mem_flatten.1 hb
      exact h2.all (P := fun f => ∀ b ∈ f, b < w.heap.size) (fun _ _ _ h => At.lt h) f hf b hbf

theorem At.nodup : ∀ {d : Nat} {w : World} {r : Nat} {l : Nd d} {F : List Nat}, At d w r l F → F.Nodup
  | 0, _, _, _, _, h => Raw.nodup h
  | _ + 1, _, _, _, _, ⟨_, _, _, _, _, _, h⟩ => h

theorem At.only : ∀ {d : Nat} {w w' : World} {r : Nat} {l : Nd d} {F : List Nat} {S : Nat → Prop}, At d w r l F → Only S w w' → (∀ b ∈ F, ¬ S b) → At d w' r l F
  | 0, _, _, _, _, _, _, h, ho, hs => Raw.only h ho hs
  | _ + 1, _, _, _, _, _, _, ⟨rs, F0, Fs, h1, h2, h3, h4⟩, ho, hs => by
    subst h3
    exact ⟨rs, F0, Fs, h1.only ho fun b hb => hs b (by simp [hb]), h2.imp fun r a f hf h => At.only h ho fun b hb => hs b (List.mem_append_right _ (List.mem_flatten.2 ⟨f, hf, hb⟩)), rfl, h4⟩

theorem At.self : ∀ {d : Nat} {w : World} {r : Nat} {l : Nd d} {F : List Nat}, At d w r l F → r ∈ F
  | 0, _, _, _, _, h => Raw.self h
  | _ + 1, _, _, _, _, ⟨_, _, _, h1, _, h3, _⟩ => by
    subst h3
    simp [h1.self]

/-- The node alone. -/
theorem At.raw : ∀ {d : Nat} {w : World} {r : Nat} {l : Nd d} {F : List Nat}, At d w r l F → ∃ vs cs F0, Raw w r (keys l) vs cs F0 ∧ max cs.length vs.length = l.length ∧ (cs = [] ∨ vs = []) ∧ ∀ b ∈ F0, b ∈ F
  | 0, _, _, l, F, h => ⟨_, _, F, h, (Nat.zero_max _).trans (vals_length _), .inl rfl, fun _ h => h⟩
  | _ + 1, _, _, _, _, ⟨rs, F0, Fs, h1, h2, h3, _⟩ => ⟨_, _, F0, h1, (Nat.max_zero _).trans (h2.lenR.trans (subs_length _)), .inr rfl, fun b hb => by rw [h3]; simp [hb]⟩

/-- A node of children, in the making: what its own pointers are, and which children there are. -/
structure Inr (d : Nat) (w : World) (r : Nat) (ks : List Key) (qs rs : List Nat) (cs : List (Nd d)) (F0 : List Nat) (Fs : List (List Nat)) : Prop where
  raw : Raw w r ks [] qs F0
  kids : Sons (At d w) rs cs Fs
  nd : (F0 ++ Fs.flatten).Nodup

theorem At.inr {d : Nat} {w : World} {r : Nat} {l : Nd (d + 1)} {F : List Nat} (h : At (d + 1) w r l F) : ∃ rs F0 Fs, Inr d w r (keys l) rs rs (subs l) F0 Fs ∧ F = F0 ++ Fs.flatten := by
  obtain ⟨rs, F0, Fs, h1, h2, h3, h4⟩ := h
  exact ⟨rs, F0, Fs, ⟨h1, h2, h3 ▸ h4⟩, h3⟩
theorem Inr.at {d : Nat} {w : World} {r : Nat} {l : Nd (d + 1)} {rs F0 : List Nat} {Fs : List (List Nat)} (h : Inr d w r (keys l) rs rs (subs l) F0 Fs) : At (d + 1) w r l (F0 ++ Fs.flatten) :=
  ⟨rs, F0, Fs, h.raw, h.kids, rfl, h.nd⟩

/-- Some blocks turn into others: those that stay, and new ones. -/
theorem nodup_turn {A M M' B : List Nat} {N : Nat} (h : (A ++ (M ++ B)).Nodup) (hm : M'.Nodup) (hlt : ∀ b ∈ A ++ B, b < N) (ht : ∀ b ∈ M', b ∈ M ∨ N ≤ b) : (A ++ (M' ++ B)).Nodup := by
  rw [List.nodup_append] at h ⊢
  obtain ⟨h1, h2, h3⟩ := h
  rw [List.nodup_append] at h2 ⊢
  obtain ⟨h4, h5, h6⟩ := h2
  refine ⟨h1, ⟨hm, h5, fun a ha b hb => ?_⟩, fun a ha b hb => ?_⟩
  · rcases ht a ha with h | h
    · exact h6 a h b hb
    · have := hlt b (by simp [hb]); omega
  · rcases List.mem_append.1 hb with hb | hb
    · rcases ht b hb with h | h
      · exact h3 a ha b (by simp [h])
      · have := hlt a (by simp [ha]); omega
    · exact h3 a ha b (by simp [hb])

theorem Inr.lt {d : Nat} {w : World} {r : Nat} {ks : List Key} {qs rs : List Nat} {cs : List (Nd d)} {F0 : List Nat} {Fs : List (List Nat)} (h : Inr d w r ks qs rs cs F0 Fs) : ∀ b ∈ F0 ++ Fs.flatten, b < w.heap.size := by
  intro b hb
  rcases List.mem_append.1 hb with hb | hb
  · exact h.raw.lt b hb
  · obtain ⟨f, hf, hbf⟩ := List.mem_flatten.1 hb
    exact h.kids.all (P := fun f => ∀ b ∈ f, b < w.heap.size) (fun _ _ _ h => At.lt h) f hf b hbf

/-- The node's own row turns. -/
theorem Inr.rawTurn {d : Nat} {w w' : World} {r : Nat} {ks ks' : List Key} {qs qs' rs : List Nat} {cs : List (Nd d)} {F0 F0' : List Nat} {Fs : List (List Nat)} (h : Inr d w r ks qs rs cs F0 Fs)
    (hr : Raw w' r ks' [] qs' F0') (ho : Only (fun b => b ∈ F0) w w') (ht : ∀ b ∈ F0', b ∈ F0 ∨ w.heap.size ≤ b) : Inr d w' r ks' qs' rs cs F0' Fs := by
  refine ⟨hr, h.kids.imp fun r a f hf h' => h'.only ho fun b hb hb0 => ?_, ?_⟩
  · exact (List.nodup_append.1 h.nd).2.2 b hb0 b (List.mem_flatten.2 ⟨f, hf, hb⟩) rfl
  · have := nodup_turn (A := []) (M := F0) (M' := F0') (B := Fs.flatten) (N := w.heap.size) (by simpa using h.nd) hr.nodup (fun b hb => h.lt b (by simp at hb; simp [hb])) ht
    simpa using this

/-- Some of the children turn. -/
theorem Inr.turn {d : Nat} {w w' : World} {r : Nat} {ks : List Key} {qs ra rm rb rm' : List Nat} {A M B M' : List (Nd d)} {F0 : List Nat} {Fa Fm Fb Fm' : List (List Nat)} (h : Inr d w r ks qs (ra ++ (rm ++ rb)) (A ++ (M ++ B)) F0 (Fa ++ (Fm ++ Fb)))
    (la : Sons (At d w) ra A Fa) (lb : Sons (At d w) rb B Fb) (hm : Sons (At d w') rm' M' Fm') (hn : Fm'.flatten.Nodup) (ho : Only (fun b => b ∈ Fm.flatten) w w') (ht : ∀ b ∈ Fm'.flatten, b ∈ Fm.flatten ∨ w.heap.size ≤ b) :
    Inr d w' r ks qs (ra ++ (rm' ++ rb)) (A ++ (M' ++ B)) F0 (Fa ++ (Fm' ++ Fb)) := by
  have hnd := h.nd
  have hlt := h.lt
  simp only [List.flatten_append] at hnd hlt
  have h1 := List.nodup_append.1 hnd
  have h2 := List.nodup_append.1 h1.2.1
  have h3 := List.nodup_append.1 h2.2.1
  refine ⟨h.raw.only ho fun b hb hm => h1.2.2 b hb b (by simp [List.mem_flatten.1 hm]) rfl, (la.imp fun r a f hf h' => h'.only ho fun b hb hm => ?_).append (hm.append (lb.imp fun r a f hf h' => h'.only ho fun b hb hm => ?_)), ?_⟩
  · exact h2.2.2 b (List.mem_flatten.2 ⟨f, hf, hb⟩) b (List.mem_append_left _ hm) rfl
  · exact h3.2.2 b hm b (List.mem_flatten.2 ⟨f, hf, hb⟩) rfl
  · simp only [List.flatten_append]
    rw [← List.append_assoc]
    refine nodup_turn (M := Fm.flatten) (N := w.heap.size) (by rw [List.append_assoc]; exact hnd) hn (fun b hb => hlt b ?_) ht
    simp only [List.mem_append] at hb ⊢
    rcases hb with (h | h) | h
    · exact .inl h
    · exact .inr (.inl h)
    · exact .inr (.inr (.inr h))
end Go.Proofs.YtedfijmaeoednaaGreatDoor

namespace Go.Proofs.YtedfijmaeoednaaGreatDoor
open Go.RowKit Go.Wh

theorem snan_any (a : Key) (w : World) : Calls Tryz.prog 80 #[.string a] w fun e w' => e = .returned (.bool false) ∧ w' = w := by
  go_enter Tryz.func80, Tryz.ntmps80
  go_wp2_with fail
  go_ret
  exact ⟨by simp, rfl⟩

theorem cnan_any (a : Key) (w : World) : Calls Tryz.prog 105 #[.string a] w fun e w' => e = .returned (.bool false) ∧ w' = w := by
  go_enter Tryz.func105, Tryz.ntmps105
  go_wp2_with fail
  go_ret
  exact ⟨by simp, rfl⟩

theorem less_any (a b : Key) (w : World) : Calls Tryz.prog 79 #[.string a, .string b] w fun e w' => e = .returned (.bool (bl a b)) ∧ w' = w := by
  go_enter Tryz.func79, Tryz.ntmps79
  go_wp2_with fail
  refine (cnan_any a w).mono ?_
  rintro e w' ⟨rfl, rfl⟩
  go_wp2_with fail
  go_ret
  exact ⟨rfl, rfl⟩


theorem hasK_false_end {l : List Key} {k : Key} (h : pos l k = l.length) : hasK l k = false := by
  unfold hasK
  rw [h]
  simp
theorem hasK_of_get {l : List Key} {k a : Key} (h : l[pos l k]? = some a) : hasK l k = decide (a = k) := by
  unfold hasK
  rw [h]
  simp

set_option maxHeartbeats 1000000 in
set_option maxRecDepth 100000 in
theorem search_any (v : Value) (n : Nat) (l : List Key) (k : Key) (w : World) (h : Vec w 1 v n (kcells l)) (hs : KS l) (hn : n ≤ 10000) :
    Calls Tryz.prog 50 #[v, .string k] w fun e w' => e = .returned (.tuple #[.int .i64 (pos l k), .bool (hasK l k)]) ∧ w' = w := by
  have hl : l.length = n := by
    have := h.len
    simpa [kcells] using this
  obtain ⟨p, hp⟩ : ∃ p, pos l k = p := ⟨_, rfl⟩
  have hpn : p ≤ n := by rw [← hp, ← hl]; exact pos_le l k
  rw [hp]
  have HC : ∀ j, j < n → ∃ a g o c x, v = .slice (some ⟨g, o, none⟩) n c ∧ l[j]? = some a ∧ w.cell? ⟨g, o + j, x⟩ = some (.string a) ∧ x = none := fun j hj => by
    obtain ⟨g, o, cap, rfl, hv⟩ := h.form (by omega)
    have ha : l[j]? = some l[j] := List.getElem?_eq_getElem (by omega)
    exact ⟨_, g, o, cap, none, rfl, ha, by rw [hv.cells j (by omega)]; exact kcells_get ha, rfl⟩
  obtain ⟨a0, cap, hv⟩ := h.form'
  have HP := Lib.hid hp
  have HL := Lib.hid hl
  have HS := Lib.hid hs
  have HHC := Lib.hid HC
  clear h HC hs hp hl
  subst hv
  go_enter Tryz.func50, Tryz.ntmps50
  go_wp2_with fail
  go_loopw [7, 8] (fun s t wr => ∃ i j : Nat, s = .int .i64 i ∧ t = .int .i64 j ∧ i ≤ p ∧ p ≤ j ∧ j ≤ n ∧ wr = w) (fun s t _ => (intOf t).toNat - (intOf s).toNat)
  case atStart => exact ⟨0, n, rfl, rfl, Nat.zero_le _, hpn, Nat.le_refl _, rfl⟩
  case round =>
    obtain ⟨i, j, rfl, rfl, hip, hpj, hjn, rfl⟩ := hrel
    by_cases hij : i < j
    · obtain ⟨a, g, o, c, x, he, hla, hcell, rfl⟩ := HHC.out ((i + j) / 2) (by omega)
      injection he with he1 _ he2
      subst he1 he2
      have t1 : decide (i < j) = true := by simp [hij]
      have hlt := pos_lt HS.out k hla
      rw [HP.out] at hlt
      have HLA := Lib.hid hla
      have b1 : (((i : Int) + (j : Int)) / 2).toNat = (i + j) / 2 := by omega
      clear hla
      cases hb : bl a k with
      | true =>
        have hlt' := hlt.1 hb
        clear hlt HLA
        go_wp2_with fail
        refine (less_any _ _ _).mono ?_
        rintro e w' ⟨rfl, rfl⟩
        rw [hb]
        clear hb
        go_wp2_with fail
        go_roundw
        case rel => exact ⟨(i + j) / 2 + 1, j, by go_num, rfl, by omega, hpj, hjn, trivial⟩
        case measure => simp [intOf]; omega
      | false =>
        have hlt' : p ≤ (i + j) / 2 := by
          rcases Nat.lt_or_ge ((i + j) / 2) p with h1 | h1
          · rw [hlt.2 h1] at hb; cases hb
          · exact h1
        clear hlt HLA
        go_wp2_with fail
        refine (less_any _ _ _).mono ?_
        rintro e w' ⟨rfl, rfl⟩
        rw [hb]
        clear hb
        go_wp2_with fail
        go_roundw
        case rel => exact ⟨i, (i + j) / 2, rfl, by go_num, hip, hlt', by omega, trivial⟩
        case measure => simp [intOf]; omega
    · have hi : i = p := by omega
      subst hi
      by_cases hin : i < n
      · obtain ⟨a, g, o, c, x, he, hla, hcell, rfl⟩ := HHC.out i hin
        injection he with he1 _ he2
        subst he1 he2
        have hk := hasK_of_get (l := l) (k := k) (a := a) (by rw [HP.out]; exact hla)
        have HK := Lib.hid hk
        clear hla hk
        by_cases hak : a = k
        · subst hak
          go_wp2_with fail
          go_ret2
          exact ⟨by rw [HK.out]; simp, rfl⟩
        · have hne : (a.toList == k.toList) = false := by
            rw [beq_eq_false_iff_ne]
            exact fun h => hak (key_ext h)
          go_wp2_with (first | (go_at_call 80; refine (snan_any _ _).mono ?_; rintro e w' ⟨rfl, rfl⟩))
          go_ret2
          exact ⟨by rw [HK.out]; simp [hak], rfl⟩
      · have hk := hasK_false_end (l := l) (k := k) (by rw [HP.out, HL.out]; omega)
        have HK := Lib.hid hk
        clear hk
        go_wp2_with fail
        go_ret2
        exact ⟨by rw [HK.out]; rfl, rfl⟩
end Go.Proofs.YtedfijmaeoednaaGreatDoor

namespace Go.Proofs.YtedfijmaeoednaaGreatDoor
open Go.RowKit Go.Wh

theorem still_drewN (w : World) (n : Nat) : Still w (w.drewN n) := (Only.refl _ w).drewN n

set_option maxHeartbeats 400000 in
theorem size_any (w : World) (r : Nat) (ks : List Key) (vs : List Rid) (cs : List Nat) (F : List Nat) (h : Raw w r ks vs cs F) :
    Calls Tryz.prog 76 #[ptr r] w fun e w' => e = .returned (.int .i64 ((max cs.length vs.length : Nat))) ∧ Still w w' := by
  obtain ⟨kv, vv, cv, hn, _, _, _⟩ := h
  obtain ⟨a1, k1, rfl⟩ := hn.v.form'
  obtain ⟨a2, k2, rfl⟩ := hn.c.form'
  have c1 : w.cell? ⟨r, 1, none⟩ = _ := hn.cells.cell 1
  have c2 : w.cell? ⟨r, 2, none⟩ = _ := hn.cells.cell 2
  simp only [List.getElem?_cons_succ, List.getElem?_cons_zero] at c1 c2
  generalize vs.length = n at *
  generalize cs.length = m at *
  clear hn
  unfold ptr
  go_enter Tryz.func76, Tryz.ntmps76
  go_wp2_with fail
  go_region
  go_wp2_with fail
  go_ret
  exact ⟨by rw [show ((max m n : Nat) : Int) = max (m : Int) (n : Int) by omega]; rfl, still_drewN w 1⟩

theorem takeWhile_at {α : Type} (P : α → Bool) : ∀ (t : List α) (i : Nat) (a : α), i ≤ (t.takeWhile P).length → t[i]? = some a → (P a = true ↔ i < (t.takeWhile P).length)
  | [], i, a, _, ha => by simp at ha
  | x :: t, i, a, hi, ha => by
    rw [List.takeWhile_cons] at hi ⊢
    cases hx : P x with
    | true =>
      simp only [hx, if_true, List.length_cons] at hi ⊢
      cases i with
      | zero =>
        simp at ha
        subst ha
        simp [hx]
      | succ i =>
        simp at ha
        rw [takeWhile_at P t i a (by omega) ha]
        exact Nat.succ_lt_succ_iff.symm
    | false =>
      simp [hx] at hi
      subst hi
      simp at ha
      subst ha
      simp [hx]

theorem childI_at {ks : List Key} {k a : Key} {i : Nat} (hi : i ≤ childI ks k) (ha : ks[i + 1]? = some a) : bl k a = false ↔ i < childI ks k := by
  have := takeWhile_at (fun a => !bl k a) ks.tail i a hi (by rw [List.getElem?_tail]; exact ha)
  simpa [childI] using this

theorem leq_bl (a k : Key) : (Op.bytesLess a.toList k.toList || a.toList == k.toList) = !bl k a := by
  cases h : bl k a with
  | true =>
    have h1 : Op.bytesLess a.toList k.toList = false := bl_asymm h
    have h2 : (a.toList == k.toList) = false := by
      rw [beq_eq_false_iff_ne]
      intro e
      rw [key_ext e, bl_irrefl] at h
      cases h
    rw [h1, h2]; rfl
  | false =>
    cases h1 : bl a k with
    | true =>
      have h2 : Op.bytesLess a.toList k.toList = true := h1
      rw [h2]; rfl
    | false =>
      rw [bl_total h1 h]
      simp

set_option maxHeartbeats 1000000 in
set_option maxRecDepth 100000 in
theorem child_any (w : World) (r : Nat) (ks : List Key) (vs : List Rid) (cs : List Nat) (F : List Nat) (k : Key) (h : Raw w r ks vs cs F) (hkc : ks.length = cs.length) (hne : 0 < cs.length) (h2 : cs.length ≤ 10000) :
    Calls Tryz.prog 64 #[ptr r, .string k] w fun e w' => e = .returned (.int .i64 (childI ks k)) ∧ w' = w := by
  obtain ⟨kv, vv, cv, hn, _, _, _⟩ := h
  obtain ⟨g, o, cap, rfl, hv⟩ := hn.k.form (by omega)
  obtain ⟨a2, k2, rfl⟩ := hn.c.form'
  have c0 : w.cell? ⟨r, 0, none⟩ = _ := hn.cells.cell 0
  have c2 : w.cell? ⟨r, 2, none⟩ = _ := hn.cells.cell 2
  simp only [List.getElem?_cons_succ, List.getElem?_cons_zero] at c0 c2
  rw [hkc] at c0
  have HC := Lib.hid (fun (j : Nat) (hj : j < ks.length) => show ∃ a, ks[j]? = some a ∧ w.cell? ⟨g, o + j, none⟩ = some (.string a) from
    ⟨_, List.getElem?_eq_getElem hj, by rw [hv.cells j (by omega)]; exact kcells_get (List.getElem?_eq_getElem hj)⟩)
  have hlt := childI_lt (ks := ks) (fun e => by rw [e] at hkc; simp at hkc; omega) k
  obtain ⟨p, hp⟩ : ∃ p, childI ks k = p := ⟨_, rfl⟩
  have hat := fun (i : Nat) (a : Key) => childI_at (ks := ks) (k := k) (a := a) (i := i)
  rw [hp] at hlt ⊢
  simp only [hp] at hat
  have HA := Lib.hid hat
  have HKC := Lib.hid hkc
  rw [hkc] at hlt
  generalize cs.length = n at *
  clear hn hv hat hp hkc
  unfold ptr
  go_enter Tryz.func64, Tryz.ntmps64
  go_wp2_with fail
  go_loopw [5] (fun s wr => ∃ i : Nat, s = .int .i64 i ∧ i ≤ p ∧ wr = w) (fun s _ => p - (intOf s).toNat)
  case atStart => exact ⟨0, rfl, Nat.zero_le _, rfl⟩
  case round =>
    obtain ⟨i, rfl, hip, rfl⟩ := hrel
    by_cases hin : i + 1 < n
    · obtain ⟨a, ha, hcell⟩ := HC.out (i + 1) (by rw [HKC.out]; exact hin)
      have hA := HA.out i a hip ha
      have t1 : decide ((i : Int) + 1 < (n : Int)) = true := by simp; omega
      have t2 := leq_bl a k
      have b1 : ((i : Int) + 1).toNat = i + 1 := by omega
      have b2 : (0 : Int) ≤ (i : Int) + 1 := by omega
      have b3 : (i : Int) + 1 < (n : Int) := by omega
      clear ha
      cases hb : bl k a with
      | false =>
        have hlt' := hA.1 hb
        rw [hb] at t2
        clear hb hA
        go_wp2_with fail
        go_roundw
        case rel => exact ⟨i + 1, by go_num, by omega, trivial⟩
        case measure => simp [intOf]; omega
      | true =>
        have hge : i = p := by
          rcases Nat.lt_or_ge i p with h1 | h1
          · rw [hA.2 h1] at hb; cases hb
          · omega
        rw [hb] at t2
        clear hb hA
        subst hge
        go_wp2_with fail
        go_ret
        exact ⟨rfl, rfl⟩
    · have hge : i = p := by omega
      subst hge
      have t1 : decide ((i : Int) + 1 < (n : Int)) = false := by simp; omega
      go_wp2_with fail
      go_ret
      exact ⟨rfl, rfl⟩
end Go.Proofs.YtedfijmaeoednaaGreatDoor

namespace Go.Proofs.YtedfijmaeoednaaGreatDoor
open Go.RowKit Go.Wh

theorem info_s : (Tryz.prog.info? 9).map (fun i => (i.zero, i.size, i.bytes)) = some (some (.string ⟨#[]⟩), 1, 16) := by kernel_rfl

set_option maxHeartbeats 400000 in
theorem clone_s (v : Value) (n : Nat) (xs : List Value) (w : World) (h : Reads w 1 v n xs) (h1c : ∀ u ∈ xs, u.oneCell' = true) (hn : n ≤ 10000) :
    Calls Tryz.prog 71 #[v] w (FreshPost w 1 n xs) := by
  rcases id h with ⟨hl, ⟨rfl, rfl⟩ | ⟨a, c, rfl, hc⟩⟩
  · have hnil : xs = [] := by simpa using hl
    have F := Lib.hid (show FreshPost w 1 0 xs (.returned (.slice none 0 0)) w from ⟨_, rfl, by rw [hnil]; exact Vec.nil _ _, Below.refl _ _, fun g hg => by cases hg⟩)
    clear h hl hnil
    have hnn := fun W : World => Lib.run_eql_slice_nil (P := Tryz.prog) W 42 9 none 0 0 0 0 Tryz.underlying42
    go_enter Tryz.func71, Tryz.ntmps71
    go_wp2_with fail
    go_ret
    exact F.out
  · obtain ⟨i0, hi, hz0, hz1, hz2⟩ := info_parts info_s
    have H := Lib.hid h
    have HC := Lib.hid h1c
    clear h hl hc h1c
    have hnn := fun W : World => Lib.run_eql_slice_nil (P := Tryz.prog) W 42 9 (some a) n c 0 0 Tryz.underlying42
    go_enter Tryz.func71, Tryz.ntmps71
    have H1 := Lib.hid (H.out.belowAll ((Below.refl _ _).alloc (Nat.le_refl _) (Obj.cells #[] 9)))
    go_wp2_with (at_builtin; refine wpList_append_vec rfl _ _ 42 rfl 9 i0 _ 1 16 Tryz.underlying42 hi hz0 hz1 hz2 rfl (by decide) _ 0 [] rfl (Vec.none_ _ _ _ _) _ n xs rfl H1.out HC.out (by simp only [maxLen]; omega) (by omega) ?_; intro v' w' hv' ho' hb')
    have F := Lib.hid (show FreshPost w 1 n xs (.returned v') w' from by
      have hbel := (Below.refl w.heap.size w).alloc (Nat.le_refl _) (Obj.cells #[] 9)
      refine ⟨v', rfl, by simpa using hv', hbel.trans (ho'.below (by simp) (fun i hi e => ?_)), fun g hg => ?_⟩
      · have e2 : w.heap.size = i := Option.some.inj e
        omega
      · rcases hb' with e | ⟨g', e, h1, h2⟩
        · have e2 : w.heap.size = g := Option.some.inj (e.symm.trans hg)
          have h3 := ho'.size
          simp at h3
          omega
        · rw [e] at hg
          injection hg with hg
          simp at h1
          omega)
    clear hv' ho' hb' H H1 HC
    go_wp2_with fail
    go_ret
    exact F.out


theorem overlaps_s (w : World) (vb g p la ca lb cb : Nat) (item : List Value) (hb : cellsAt w vb item) (hg : vb ≠ g) (t : TypeId) (k : Nat) (hs : w.shape? g = some (t, k)) (hk : k ≠ 0) :
    (callFunc 95 #[.slice (some ⟨vb, 0, none⟩) la ca, .slice (some ⟨g, p, none⟩) lb cb]).run Tryz.prog w = .ok (.value (.bool false)) w := by
  obtain ⟨i0, hi, _, hz1, _⟩ := info_parts info_s
  obtain ⟨tA, hsa⟩ := hb.shape
  have hz : ∀ w, (Go.sizeOf 9).run Tryz.prog w = .ok 1 w := fun w => by simp [sizeOf, typeInfo, hi, hz1]
  rw [run_callFunc_extern Tryz.func95 (by kernel_rfl) (by kernel_rfl) (by kernel_rfl) (e := Extern.SlicesOverlaps.overlaps #[42, 42] #[4]) (by kernel_rfl),
    Lib.run_overlaps_apart w 42 4 9 Tryz.underlying42 1 hz ⟨vb, 0, none⟩ ⟨g, p, none⟩ la ca lb cb hg tA t item.length k hsa hs hk (hb.free 0) (hb.free item.length)]
  rfl

set_option maxHeartbeats 1000000 in
set_option maxRecDepth 100000 in
theorem insert_s (v : Value) (n : Nat) (xs : List Value) (vb : Nat) (item : List Value) (i : Nat) (w : World) (h : Vec w 1 v n xs) (hb : cellsAt w vb item) (hl : item.length = 1)
    (h1x : ∀ u ∈ xs, u.oneCell' = true) (h1i : ∀ u ∈ item, u.oneCell' = true) (hne : v.ownBlock ≠ some vb) (hi : i ≤ n) (hn : n ≤ 10000) :
    Calls Tryz.prog 67 #[v, .int .i64 i, .slice (some ⟨vb, 0, none⟩) 1 1] w (TurnedPost w v 1 (n + 1) (xs.take (i * 1) ++ item ++ xs.drop (i * 1))) := by
  obtain ⟨i0, hi0, hz0, hz1, hz2⟩ := info_parts info_s
  have hr : Reads w 1 (.slice (some ⟨vb, 0, none⟩) 1 1) 1 item := hb.reads (by simpa using hl)
  by_cases hin : i = n
  · subst hin
    have hx := h.len
    have ht : xs.take (i * 1) = xs := List.take_of_length_le (by omega)
    have hd : xs.drop (i * 1) = [] := List.drop_eq_nil_of_le (by omega)
    rw [ht, hd, List.append_nil]
    obtain ⟨a, cap, rfl⟩ := h.form'
    have hcap : i ≤ cap := by
      rcases h with ⟨he, rfl, _⟩ | ⟨g, o, cap', he, h⟩
      · omega
      · cases he; exact h.le
    have H := Lib.hid h
    have HR := Lib.hid hr
    have HI := Lib.hid h1i
    clear h hb hr h1x h1i hne ht hd hx hl
    have t1 : (0 : Int) ≤ (i : Int) := by omega
    have t2 : (i : Int) ≤ (cap : Int) := by omega
    cases a with
    | none =>
      go_enter Tryz.func67, Tryz.ntmps67
      go_wp2_with (at_builtin; refine wpList_append_vec rfl _ _ 42 rfl 9 i0 _ 1 16 Tryz.underlying42 hi0 hz0 hz1 hz2 rfl (by decide) _ _ xs rfl H.out _ 1 item rfl HR.out HI.out (by simp only [maxLen]; omega) (by omega) ?_; intro v' w' hv' ho' hb')
      have F := Lib.hid (show TurnedPost w _ 1 (i + 1) (xs ++ item) (.returned v') w' from ⟨v', rfl, hv', ho', hb'⟩)
      clear hv' ho' hb' H HR HI
      go_wp2_with fail
      go_ret
      exact F.out
    | some a =>
      go_enter Tryz.func67, Tryz.ntmps67
      go_wp2_with (at_builtin; refine wpList_append_vec rfl _ _ 42 rfl 9 i0 _ 1 16 Tryz.underlying42 hi0 hz0 hz1 hz2 rfl (by decide) _ _ xs rfl H.out _ 1 item rfl HR.out HI.out (by simp only [maxLen]; omega) (by omega) ?_; intro v' w' hv' ho' hb')
      all_goals (
        have F := Lib.hid (show TurnedPost w _ 1 (i + 1) (xs ++ item) (.returned v') w' from ⟨v', rfl, hv', ho', hb'⟩)
        clear hv' ho' hb' H HR HI
        go_wp2_with fail
        go_ret
        exact F.out)
  · have hlt : i < n := by omega
    obtain ⟨g, o, cap, rfl, hv⟩ := h.form (by omega)
    have hne' : vb ≠ g := fun e => hne (by rw [e]; rfl)
    have hcap := hv.small
    have hx := hv.len
    have hncap := hv.le
    have hsz : (Tryz.prog.info? 9).map (·.size) = some 1 := by rw [hi0]; simp [hz1]
    have hs1 : 1 * cap = cap * 1 := Nat.mul_comm _ _
    obtain ⟨tG, kG, hsh, hkG⟩ := hv.shape (by omega)
    have hov : ∀ p lb cb, (callFunc 95 #[.slice (some ⟨vb, 0, none⟩) 1 1, .slice (some ⟨g, p, none⟩) lb cb]).run Tryz.prog w = .ok (.value (.bool false)) w := fun p lb cb =>
      overlaps_s w vb g p 1 1 lb cb item hb hne' tG kG hsh hkG
    have hw1 : IntKind.i64.wrap ((i : Int) + 1) = (i : Int) + 1 := by rw [IntKind.wrap_i64]; omega
    have hb1 : (0 : Int) ≤ (i : Int) + 1 := by omega
    have htn : ((i : Int) + 1).toNat = i + 1 := by omega
    have hb3 : (i : Int) ≤ (n : Int) := by omega
    have hb0 : (0 : Int) ≤ (i : Int) := by omega
    have hb5 : (i : Int) + 1 ≤ (n : Int) := by omega
    have hz2' : ((i : Int) == (n : Int)) = false := by simp; omega
    have hb4 : ¬ (cap = i) := by omega
    simp only [maxLen] at hcap
    have hcap' : (cap : Int) ≤ 9223372036854775807 := by omega
    have mn1 : Nat.min (n + 1 - i) (n - i) = n - i := by simp only [Nat.min_def]; split <;> omega
    have mn2 : Nat.min 1 (n + 1 - i) = 1 := by simp only [Nat.min_def]; split <;> omega
    have hdl : (xs.drop (i * 1)).length = (n - i) * 1 := by rw [List.length_drop]; omega
    have hdo : ∀ u ∈ xs.drop (i * 1), u.oneCell' = true := fun u hu => h1x u (List.mem_of_mem_drop hu)
    by_cases hroom : n + 1 ≤ cap
    · obtain ⟨junk, hj, hW⟩ := hv.wide (n + 1) (by omega) hroom
      have hD : VecAt w.drew 1 g o (n + 1) cap (xs ++ junk) := hW.block rfl
      have hb2 : ¬ (cap = i + 1) := by omega
      have hb6 : (n : Int) + 1 ≤ (cap : Int) := by omega
      have hb7 : (i : Int) ≤ (n : Int) + 1 := by omega
      have C1 := fun ty dc sc => run_copy_at (P := Tryz.prog) 42 42 ty 9 Tryz.underlying42 hsz hD (i + 1) (n - i) dc ⟨g, o + i * 1, none⟩ (n + 1 - i) sc (xs.drop (i * 1)) (by rw [mn1, hdl]) (by rw [mn1]; omega)
        (fun j u hj => by
          rw [Addr.add_lit, Nat.add_assoc, hD.cells (i * 1 + j) (by have := (List.getElem?_eq_some_iff.1 hj).1; omega), List.getElem?_append_left (by have := (List.getElem?_eq_some_iff.1 hj).1; omega)]
          rwa [List.getElem?_drop] at hj) hdo
      rw [mn1] at C1
      obtain ⟨L, hL⟩ : ∃ L, L = (xs ++ junk).take ((i + 1) * 1) ++ xs.drop (i * 1) ++ (xs ++ junk).drop ((i + 1 + (n - i)) * 1) := ⟨_, rfl⟩
      rw [← hL] at C1
      obtain ⟨W1, hW1⟩ : ∃ W1, W1 = w.drew.setCells g (o + (i + 1) * 1) (xs.drop (i * 1)) := ⟨_, rfl⟩
      rw [← hW1] at C1
      have hV1 : VecAt W1 1 g o (n + 1) cap L := (C1 0 0 0).2
      have hO1 : Only (fun k => k = g) w W1 := by rw [hW1]; exact Only.undrew (setCells_only w.drew g _ _)
      have hB1 : cellsAt W1 vb item := hb.only hO1 hne'
      have C2 := fun ty dc => run_copy_at (P := Tryz.prog) 42 42 ty 9 Tryz.underlying42 hsz hV1 i (n + 1 - i) dc ⟨vb, 0, none⟩ 1 1 item (by rw [mn2, hl]) (by rw [mn2]; omega)
        (fun j u hj => by
          rw [Addr.add_lit, Nat.zero_add, hB1.cell]
          exact hj) h1i
      rw [mn2, shift_list xs junk item n i 1 hx hj hlt L hL] at C2
      obtain ⟨W2, hW2⟩ : ∃ W2, W2 = W1.setCells g (o + i * 1) item := ⟨_, rfl⟩
      rw [← hW2] at C2
      have hO2 : Only (fun k => k = g) w W2 := by rw [hW2]; exact hO1.trans (setCells_only W1 g _ _)
      have F := Lib.hid (show TurnedPost w (.slice (some ⟨g, o, none⟩) n cap) 1 (n + 1) (xs.take (i * 1) ++ item ++ xs.drop (i * 1)) (.returned (.slice (some ⟨g, o, none⟩) (n + 1) cap)) W2 from
        ⟨_, rfl, .inr ⟨g, o, cap, rfl, (C2 0 0).2⟩, hO2.mono (fun k e => by rw [e]; rfl), .inl rfl⟩)
      have R1 := Lib.hid (fun ty dc sc => (C1 ty dc sc).1)
      have R2 := Lib.hid (fun ty dc => (C2 ty dc).1)
      simp only [Nat.mul_one] at R1 R2
      clear C1 C2 hW1 hW2 hV1 hO1 hO2 hB1 hL hD hW hj hdo hdl mn1 mn2 hsz hsh hkG hx hv hr hb h1x h1i hne h hs1
      go_enter Tryz.func67, Tryz.ntmps67
      go_wp2_with (simp only [hov])
      go_region_law (refine Go.Proofs.step_copy_runI rfl _ _ 42 42 rfl (.slice (some ⟨g, o + (i + 1), none⟩) (n - i) (cap - (i + 1))) (.slice (some ⟨g, o + i, none⟩) (n + 1 - i) (cap - i)) (by simp [Act.eval, Act.put]) (by simp [Act.eval, Act.put]) (R1.out 3 (cap - (i + 1)) (cap - i)) ?_)
      go_wp2_with (with_reducible refine Go.Proofs.wpList_copy_runI _ rfl _ _ 42 42 rfl (.slice (some ⟨g, o + i, none⟩) (n + 1 - i) (cap - i)) (.slice (some ⟨vb, 0, none⟩) 1 1) rfl rfl (R2.out 3 (cap - i)) ?_)
      go_ret
      exact F.out
    · have hbw : g < w.heap.size := hv.lt (by omega)
      have hvw : vb < w.heap.size := hb.lt
      have hold : (Builtin.firstCells i0.size i (.slice (some ⟨g, o, none⟩) i cap)).run Tryz.prog w.drew = .ok (xs.take (i * 1)).toArray w.drew := by
        rw [hz1]
        exact run_firstCells_some w.drew 1 i ⟨g, o, none⟩ i cap (xs.take (i * 1)) (by rw [List.length_take]; omega) (fun j u hj => by
          have hlt' := (List.getElem?_eq_some_iff.1 hj).1
          rw [List.length_take] at hlt'
          rw [Addr.add_lit]
          change w.cell? ⟨g, o + j, none⟩ = some u
          rw [hv.cells j (by omega)]
          rw [List.getElem?_take] at hj
          split at hj
          · exact hj
          · cases hj)
      have hkk : (n : Int) + 1 - (i : Int) = ((n + 1 - i : Nat) : Int) := by omega
      have hik : i + (n + 1 - i) = n + 1 := by omega
      obtain ⟨G, hG⟩ : ∃ G, G = grownCap w (n + 1) cap 9 := ⟨_, rfl⟩
      have hGn : n + 1 ≤ G := by rw [hG]; exact grownCap_ge w _ _ _
      have hG63 : G ≤ maxLen := by rw [hG]; exact grownCap_le_maxLen w (n + 1) cap 9 (by simp only [maxLen]; omega)
      obtain ⟨z, hzz⟩ : ∃ z : Value, i0.zero = some z ∧ z.cells.size = 1 := ⟨_, hz0, rfl⟩
      obtain ⟨ROW, hROW⟩ : ∃ ROW : Array Value, ROW = (xs.take (i * 1)).toArray ++ Builtin.zeroCells z.cells (n + 1 - i) ++ Builtin.zeroCells z.cells (G - (n + 1)) := ⟨_, rfl⟩
      obtain ⟨W1, hW1⟩ : ∃ W1, W1 = w.drew.alloc (.cells ROW 9) := ⟨_, rfl⟩
      have hrz : ∀ ty, (Builtin.append_ #[42, 3] ty #[.slice (some ⟨g, o, none⟩) i cap, .int .i64 ((n : Int) + 1 - (i : Int))]).run Tryz.prog w = .ok (.slice (some ⟨w.heap.size, 0, none⟩) (n + 1) G) W1 := fun ty => by
        have h := Lib.run_append_grow_zeros w 42 3 ty 9 i0 z .i64 .i64 Tryz.underlying42 Tryz.underlying3 hi0 hzz.1 (some ⟨g, o, none⟩) i cap (xs.take (i * 1)) hold (n + 1 - i) (by omega) (by omega) (by omega) (by omega) (by rw [hz2]; omega) (by rw [hz2, hik]; exact growslice_fits (by omega) (by omega))
        rw [hik, ← hG, ← hROW, ← hW1] at h
        rw [hkk]
        exact h
      have hzl : (Builtin.zeroCells z.cells (n + 1 - i)).toList.length = (n + 1 - i) * 1 := by simp [Builtin.zeroCells, hzz.2]
      have htl : (xs.take (i * 1)).length = i * 1 := by rw [List.length_take]; omega
      have hRl : ROW.size = G * 1 := by
        rw [hROW]
        simp only [Array.size_append, List.size_toArray, htl]
        simp [Builtin.zeroCells, hzz.2]
        omega
      obtain ⟨L0, hL0⟩ : ∃ L0, L0 = xs.take (i * 1) ++ (Builtin.zeroCells z.cells (n + 1 - i)).toList := ⟨_, rfl⟩
      have hRt : ROW.toList.take ((n + 1) * 1) = L0 := by
        rw [hROW, hL0]
        simp only [Array.toList_append]
        rw [List.take_append_of_le_length (by rw [List.length_append, htl, hzl]; omega), List.take_of_length_le (by rw [List.length_append, htl, hzl]; omega)]
      have hV1 : VecAt W1 1 w.heap.size 0 (n + 1) G L0 := by
        rw [← hRt]
        exact vecAt_block (t := 9) (by rw [hW1]; exact heap_alloc_new w.drew _) hRl hGn hG63
      have hB1 : cellsAt W1 vb item := by rw [hW1]; exact hb.drew.alloc _
      have hO1 : Only (fun _ => False) w W1 := by rw [hW1]; exact (Only.refl _ w).drew.alloc _
      have C1 := fun ty dc => run_copy_at (P := Tryz.prog) 42 42 ty 9 Tryz.underlying42 hsz hV1 i (n + 1 - i) dc ⟨vb, 0, none⟩ 1 1 item (by rw [mn2, hl]) (by rw [mn2]; omega)
        (fun j u hj => by
          rw [Addr.add_lit, Nat.zero_add, hB1.cell]
          exact hj) h1i
      rw [mn2] at C1
      obtain ⟨L1, hL1⟩ : ∃ L1, L1 = L0.take (i * 1) ++ item ++ L0.drop ((i + 1) * 1) := ⟨_, rfl⟩
      obtain ⟨W2, hW2⟩ : ∃ W2, W2 = W1.setCells w.heap.size (0 + i * 1) item := ⟨_, rfl⟩
      rw [← hL1, ← hW2] at C1
      have hO2 : Only (fun _ => False) w W2 := by
        rw [hW2]
        exact hO1.andThen (setCells_only W1 w.heap.size _ _) (fun k hk e => by omega)
      have hD : VecAt W2.drew 1 w.heap.size 0 (n + 1) G L1 := (C1 0 0).2.block rfl
      have mn3 : Nat.min (n - i) (n - i) = n - i := by simp only [Nat.min_def]; split <;> omega
      have C2 := fun ty dc sc => run_copy_at (P := Tryz.prog) 42 42 ty 9 Tryz.underlying42 hsz hD (i + 1) (n - i) dc ⟨g, o + i * 1, none⟩ (n - i) sc (xs.drop (i * 1)) (by rw [mn3, hdl]) (by rw [mn3]; omega)
        (fun j u hj => by
          have hlt' := (List.getElem?_eq_some_iff.1 hj).1
          rw [Addr.add_lit, Nat.add_assoc]
          change W2.cell? ⟨g, o + (i * 1 + j), none⟩ = some u
          rw [hO2.cell hbw (fun h => h), hv.cells (i * 1 + j) (by omega)]
          rwa [List.getElem?_drop] at hj) hdo
      rw [mn3, grow_list xs _ item n i 1 hx hzl hlt hl L0 L1 hL0 hL1] at C2
      obtain ⟨W3, hW3⟩ : ∃ W3, W3 = W2.drew.setCells w.heap.size (0 + (i + 1) * 1) (xs.drop (i * 1)) := ⟨_, rfl⟩
      rw [← hW3] at C2
      have hO3 : Only (fun _ => False) w W3 := by
        rw [hW3]
        exact hO2.drew.andThen (setCells_only W2.drew w.heap.size _ _) (fun k hk e => by omega)
      have hlt3 : w.heap.size < W3.heap.size := by
        have h1 := hO3.size
        have h2 : (W3.cell? ⟨w.heap.size, 0 + 0, none⟩).isSome = true := ((C2 0 0 0).2.room 0 (by omega)).1
        obtain ⟨u, hu⟩ := Option.isSome_iff_exists.1 h2
        exact lt_of_cell hu
      have F := Lib.hid (show TurnedPost w (.slice (some ⟨g, o, none⟩) n cap) 1 (n + 1) (xs.take (i * 1) ++ item ++ xs.drop (i * 1)) (.returned (.slice (some ⟨w.heap.size, 0, none⟩) (n + 1) G)) W3 from
        ⟨_, rfl, .inr ⟨w.heap.size, 0, G, rfl, (C2 0 0 0).2⟩, hO3.mono (fun k e => e.elim), .inr ⟨_, rfl, Nat.le_refl _, hlt3⟩⟩)
      have R0 := Lib.hid hrz
      have R1 := Lib.hid (fun ty dc => (C1 ty dc).1)
      have R2 := Lib.hid (fun ty dc sc => (C2 ty dc sc).1)
      simp only [Nat.mul_one, Nat.zero_add] at R1 R2
      have hGi : ¬ (G = i) := by omega
      have hGim : ¬ (G = i + 1) := by omega
      have hb6 : (cap : Int) < (n : Int) + 1 := by omega
      have hb7 : (i : Int) ≤ (n : Int) + 1 := by omega
      have hb8 : (i : Int) ≤ (cap : Int) := by omega
      have hG' : (G : Int) ≤ 9223372036854775807 := by simp only [maxLen] at hG63; omega
      have hb9 : (n : Int) + 1 ≤ (G : Int) := by omega
      clear C1 C2 hW1 hW2 hW3 hV1 hO1 hO2 hO3 hB1 hL0 hL1 hD hdo hdl mn1 mn2 mn3 hsz hsh hkG hx hv hr hb h1x h1i hne h hs1 hlt3 hRt hRl htl hzl hrz hROW hzz hG hG63 hold hkk hik hov hbw hvw
      go_enter Tryz.func67, Tryz.ntmps67
      go_wp2_with (first
        | (at_builtin; refine Lib.wpList_append_run _ rfl _ _ _ _ rfl _ _ rfl rfl _ _ (R0.out _) ?_)
        | (with_reducible refine Go.Proofs.wpList_copy_runI _ rfl _ _ 42 42 rfl (.slice (some ⟨w.heap.size, i, none⟩) (n + 1 - i) (G - i)) (.slice (some ⟨vb, 0, none⟩) 1 1) rfl rfl (R1.out 3 (G - i)) ?_))
      go_region_law (refine Go.Proofs.step_copy_runI rfl _ _ 42 42 rfl (.slice (some ⟨w.heap.size, (i + 1), none⟩) (n - i) (G - (i + 1))) (.slice (some ⟨g, o + i, none⟩) (n - i) (cap - i)) (by simp [Act.eval, Act.put]) (by simp [Act.eval, Act.put]) (R2.out 3 (G - (i + 1)) (cap - i)) ?_)
      go_wp2_with fail
      go_ret
      exact F.out

set_option maxHeartbeats 1000000 in
set_option maxRecDepth 100000 in
theorem delete_s (v : Value) (n : Nat) (xs : List Value) (i : Nat) (w : World) (h : Vec w 1 v n xs) (h1x : ∀ u ∈ xs, u.oneCell' = true) (hi : i < n) (hn : n ≤ 10000) :
    Calls Tryz.prog 60 #[v, .int .i64 i, .int .i64 ((i : Int) + 1)] w (TurnedPost w v 1 (n - 1) (xs.take (i * 1) ++ xs.drop ((i + 1) * 1))) := by
  obtain ⟨i0, hi0, hz0, hz1, hz2⟩ := info_parts info_s
  obtain ⟨g, o, cap, rfl, hv⟩ := h.form (by omega)
  have hcap := hv.small
  have hx := hv.len
  have hncap := hv.le
  simp only [maxLen] at hcap
  have hD : VecAt w.drew 1 g o n cap xs := hv.block rfl
  have hA : VecAt w.drew 1 g o i cap (xs.take (i * 1)) := hD.short i (by omega)
  have hdl : (xs.drop ((i + 1) * 1)).length = (n - (i + 1)) * 1 := by rw [List.length_drop]; omega
  have hdo : ∀ u ∈ xs.drop ((i + 1) * 1), u.oneCell' = true := fun u hu => h1x u (List.mem_of_mem_drop hu)
  have hM := hA.more (n - (i + 1)) (xs.drop ((i + 1) * 1)) hdl (by omega)
  rw [show i + (n - (i + 1)) = n - 1 by omega] at hM
  obtain ⟨W1, hW1⟩ : ∃ W1, W1 = w.drew.setCells g (o + i * 1) (xs.drop ((i + 1) * 1)) := ⟨_, rfl⟩
  rw [← hW1] at hM
  have hO1 : Only (fun k => k = g) w W1 := by rw [hW1]; exact Only.undrew (setCells_only w.drew g _ _)
  have hra : ∀ ty (ad : Addr) c, (n - (i + 1) = 0 ∨ ad = ⟨g, o + (i + 1) * 1, none⟩) → (Builtin.append_ #[42, 42] ty #[.slice (some ⟨g, o, none⟩) i cap, .slice (some ad) (n - (i + 1)) c]).run Tryz.prog w.drew = .ok (.slice (some ⟨g, o, none⟩) (n - 1) cap) W1 := fun ty ad c had => by
    have hr := run_append_room_cells (P := Tryz.prog) w.drew 42 ty 9 i0 Tryz.underlying42 hi0 g o i cap ad (n - (i + 1)) c (xs.drop ((i + 1) * 1)) (by rw [hz1]; exact hdl)
      (fun j u hj => by
        have hlt' := (List.getElem?_eq_some_iff.1 hj).1
        rcases had with h0 | rfl
        · omega
        · rw [Addr.add_lit, Nat.add_assoc, hD.cells ((i + 1) * 1 + j) (by omega)]
          rwa [List.getElem?_drop] at hj) hdo (by omega)
      (fun j hj => by rw [hz1, Nat.add_assoc]; exact (hD.room _ (by omega)).1) (fun j hj => by rw [hz1, Nat.add_assoc]; exact (hD.room _ (by omega)).2)
    rw [hz1, ← hW1, show i + (n - (i + 1)) = n - 1 by omega] at hr
    exact hr
  have hzv : ∀ w, (zeroValue 9).run Tryz.prog w = .ok (.string ⟨#[]⟩) w := fun w => by simp [zeroValue, typeInfo, hi0, hz0]
  obtain ⟨zs, hzl, hcl⟩ : ∃ zs : List Value, zs.length = 1 * 1 ∧ ∀ ty c, (Builtin.clear_ #[42] ty #[.slice (some ⟨g, o + (n - 1) * 1, none⟩) 1 c]).run Tryz.prog W1 = .ok (.tuple #[]) (W1.setCells g (o + (n - 1) * 1) zs) := by
    have hroom : ∀ j, j < 1 * 1 → (W1.cell? ⟨g, o + (n - 1) * 1 + j, none⟩).isSome = true ∧ W1.frozen? ⟨g, o + (n - 1) * 1 + j, none⟩ = false := fun j hj => by
      rw [Nat.add_assoc]
      exact hM.room _ (by omega)
    exact run_clear_size (P := Tryz.prog) (w := W1) (size := 1) 42 9 _ Tryz.underlying42 hzv rfl (by intro u hu; simp [Value.cells] at hu; first | (subst hu; rfl) | (rcases hu with rfl | rfl <;> rfl) | (rcases hu with rfl | rfl | rfl <;> rfl)) g (o + (n - 1) * 1) 1 (fun j hj => (hroom j hj).1) (fun j hj => (hroom j hj).2)
  obtain ⟨W2, hW2⟩ : ∃ W2, W2 = W1.setCells g (o + (n - 1) * 1) zs := ⟨_, rfl⟩
  rw [← hW2] at hcl
  have hV2 : VecAt W2 1 g o (n - 1) cap (xs.take (i * 1) ++ xs.drop ((i + 1) * 1)) := by rw [hW2]; exact hM.beyond _ _ (Nat.le_refl _)
  have hO2 : Only (fun k => k = g) w W2 := by rw [hW2]; exact hO1.trans (setCells_only W1 g _ _)
  have F := Lib.hid (show TurnedPost w (.slice (some ⟨g, o, none⟩) n cap) 1 (n - 1) (xs.take (i * 1) ++ xs.drop ((i + 1) * 1)) (.returned (.slice (some ⟨g, o, none⟩) (n - 1) cap)) W2 from
    ⟨_, rfl, .inr ⟨g, o, cap, rfl, hV2⟩, hO2.mono (fun k e => by rw [e]; rfl), .inl rfl⟩)
  have R1 := Lib.hid hra
  have R2 := Lib.hid hcl
  simp only [Nat.mul_one] at R1 R2
  clear hra hcl hW1 hW2 hV2 hO2 hO1 hM hA hD hdl hdo hx hv h h1x hzl hzv
  have b1 : (0 : Int) ≤ (i : Int) := by omega
  have b2 : (i : Int) ≤ (i : Int) + 1 := by omega
  have b3 : (i : Int) + 1 ≤ (n : Int) := by omega
  have b4 : (n : Int) ≤ (cap : Int) := by omega
  have b5 : ((i : Int) == (i : Int) + 1) = false := by simp; omega
  have b6 : ((i : Int) + 1).toNat = i + 1 := by omega
  have b7 : (i : Int) ≤ (cap : Int) := by omega
  have b8 : (((n - 1 : Nat) : Int)) ≤ (n : Int) := by omega
  have b9 : (n : Int) ≤ (cap : Int) := by omega
  have b10 : n - (n - 1) = 1 := by omega
  have b11 : ¬ (cap = n - 1) := by omega
  have b12 : (0 : Int) ≤ (i : Int) + 1 := by omega
  by_cases hc : cap = i + 1
  · have hni : n - (i + 1) = 0 := by omega
    have R1' := Lib.hid (R1.out 42 ⟨g, o, none⟩ 0 (.inl hni))
    rw [hni] at R1'
    have hn1 : n = i + 1 := by omega
    subst hn1
    subst hc
    simp only [Nat.add_sub_cancel] at R1' R2 F
    clear R1 b8 b10 b11 hni
    have b11 : ¬ (i + 1 = i) := by omega
    have b13 : i + 1 - i = 1 := by omega
    go_enter Tryz.func60, Tryz.ntmps60
    go_wp2_with fail
    go_region_law (refine step_append_run rfl _ _ 42 42 rfl (.slice (some ⟨g, o, none⟩) i (i + 1)) (.slice (some ⟨g, o, none⟩) 0 0) (by simp [Act.eval, Act.put]) (by simp [Act.eval, Act.put]) R1'.out ?_)
    go_wp2_with (with_reducible refine wpList_clear_run _ rfl _ 42 rfl (.slice (some ⟨g, o + i, none⟩) 1 1) rfl (R2.out _ 1) ?_)
    go_ret
    exact F.out
  · have R1' := Lib.hid (R1.out 42 ⟨g, o + (i + 1), none⟩ (cap - (i + 1)) (.inr rfl))
    go_enter Tryz.func60, Tryz.ntmps60
    go_wp2_with fail
    go_region_law (refine step_append_run rfl _ _ 42 42 rfl (.slice (some ⟨g, o, none⟩) i cap) (.slice (some ⟨g, o + (i + 1), none⟩) (n - (i + 1)) (cap - (i + 1))) (by simp [Act.eval, Act.put]) (by simp [Act.eval, Act.put]) R1'.out ?_)
    go_wp2_with (with_reducible refine wpList_clear_run _ rfl _ 42 rfl (.slice (some ⟨g, o + (n - 1), none⟩) 1 (cap - (n - 1))) rfl (R2.out _ (cap - (n - 1))) ?_)
    go_ret
    exact F.out
end Go.Proofs.YtedfijmaeoednaaGreatDoor
