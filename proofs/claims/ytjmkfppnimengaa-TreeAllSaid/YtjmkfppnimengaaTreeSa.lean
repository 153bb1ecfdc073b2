/- The shape of a tree, level by level: as lists, and what the levels are in memory. Conditions: a tree in memory. -/
import Derived.Test.YtjmkfppnimengaaTreeFd
import Derived.Test.YtjmkfppnimengaaTreeIn
namespace Go.Proofs.Ytjmkfppnimengaa
open Go.RowKit Go.Wh

/-- How many each node has, level by level. -/
def shp : (e : Nat) → List (Nd e) → List (List Nat)
  | 0, us => [us.map List.length]
  | e + 1, us => us.map List.length :: shp e (us.flatMap subs)

theorem len_le_flat : ∀ (e : Nat) (u : Nd e), Fit e u → u.length ≤ (flat e u).length
  | 0, _, _ => Nat.le_refl _
  | e + 1, u, h => by
    induction u with
    | nil => simp
    | cons x u ih =>
      have h1 := h x (by simp)
      have h2 := len_le_flat e (nd x) h1.2.2.2
      have h3 := ih fun y hy => h y (by simp [hy])
      rw [flat_cons, List.length_append, List.length_cons]
      omega
theorem flatC_cons {d : Nat} (c : Nd d) (cs : List (Nd d)) : flatC (c :: cs) = flat d c ++ flatC cs := List.flatMap_cons
theorem flatC_down {e : Nat} : ∀ (us : List (Nd (e + 1))), flatC (us.flatMap subs) = flatC us
  | [] => rfl
  | u :: us => by
    rw [List.flatMap_cons, flatC_append, flatC_subs, flatC_cons, flatC_down us]

/-- What there is of a node that is gone through. -/
def NodeRow (w : World) (r n : Nat) (kids : List Nat) : Prop := (∃ a c, w.cell? ⟨r, 2, none⟩ = some (.slice a kids.length c) ∧ Vec w 1 (.slice a kids.length c) kids.length (pcells kids)) ∧ ∃ ks vs cs F0, Raw w r ks vs cs F0 ∧ max cs.length vs.length = n

theorem nodeRow_zero {w : World} {r : Nat} {u : Nd 0} {F : List Nat} (h : At 0 w r u F) : NodeRow w r u.length [] := by
  obtain ⟨kv, vv, cv, hn, hF, hd, hl⟩ := (show Raw w r (keys u) (vals u) [] F from h)
  obtain ⟨a, c, rfl⟩ := hn.c.form'
  exact ⟨⟨a, c, hn.cells.cell 2, hn.c⟩, _, _, _, _, h, (Nat.zero_max _).trans (vals_length _)⟩
theorem nodeRow_succ {e : Nat} {w : World} {r : Nat} {u : Nd (e + 1)} {F : List Nat} (h : At (e + 1) w r u F) : ∃ rs Fs, NodeRow w r u.length rs ∧ Sons (At e w) rs (subs u) Fs ∧ ∀ f ∈ Fs, ∀ b ∈ f, b ∈ F := by
  obtain ⟨rs, F0, Fs, h1, h2, h3, _⟩ := h
  obtain ⟨kv, vv, cv, hn, hF, hd, hl⟩ := id h1
  obtain ⟨a, c, rfl⟩ := hn.c.form'
  exact ⟨rs, Fs, ⟨⟨a, c, hn.cells.cell 2, hn.c⟩, _, _, _, _, h1, (Nat.max_zero _).trans (h2.lenR.trans (subs_length _))⟩, h2, fun f hf b hb => by rw [h3]; exact List.mem_append_right _ (List.mem_flatten.2 ⟨f, hf, hb⟩)⟩

/-- A level: its nodes; what is to be told from there on. -/
def Lv (B : Nat) (w : World) (rs : List Nat) (rest : List (List Nat)) (len : Nat) : Prop :=
  (rs = [] ∧ rest = []) ∨ ∃ e, ∃ us : List (Nd e), ∃ Fs, Sons (At e w) rs us Fs ∧ rs ≠ [] ∧ rest = shp e us ∧ (∀ u ∈ us, Fit e u ∧ (e = 0 ∨ 0 < u.length)) ∧ (flatC us).length ≤ len ∧ ∀ f ∈ Fs, ∀ b ∈ f, b < B

/-- The rows of children of a level. -/
theorem rows_zero {w : World} {rs : List Nat} {us : List (Nd 0)} {Fs : List (List Nat)} (h : Sons (At 0 w) rs us Fs) : ∀ (j r : Nat), rs[j]? = some r → ∃ n : Nat, (us.map List.length)[j]? = some n ∧ NodeRow w r n [] := by
  induction h with
  | nil => intro j r h; simp at h
  | cons h1 h2 ih =>
    intro j r hj
    cases j with
    | zero =>
      simp at hj
      subst hj
      exact ⟨_, rfl, nodeRow_zero h1⟩
    | succ j =>
      simp at hj
      obtain ⟨n, h3, h4⟩ := ih j r hj
      exact ⟨n, by simpa using h3, h4⟩
theorem rows_succ {e : Nat} {w : World} {rs : List Nat} {us : List (Nd (e + 1))} {Fs : List (List Nat)} (h : Sons (At (e + 1) w) rs us Fs) :
    ∃ rss : List (List Nat), rss.length = rs.length ∧ (∃ Gs, Sons (At e w) rss.flatten (us.flatMap subs) Gs ∧ ∀ g ∈ Gs, ∀ b ∈ g, ∃ f ∈ Fs, b ∈ f) ∧ ∀ (j r : Nat), rs[j]? = some r → ∃ (n : Nat) (kids : List Nat), (us.map List.length)[j]? = some n ∧ rss[j]? = some kids ∧ NodeRow w r n kids := by
  induction h with
  | nil => exact ⟨[], rfl, ⟨_, .nil, fun g hg => by cases hg⟩, fun j r h => by simp at h⟩
  | cons h1 h2 ih =>
    obtain ⟨rss, hl, ⟨Gs, hg, hG⟩, hr⟩ := ih
    obtain ⟨ks, Hs, hk, hs, hH⟩ := nodeRow_succ h1
    refine ⟨ks :: rss, by simp [hl], ⟨Hs ++ Gs, ?_, fun g hg b hb => ?_⟩, fun j r hj => ?_⟩
    · rw [List.flatten_cons, List.flatMap_cons]
      exact hs.append hg
    · rcases List.mem_append.1 hg with h | h
      · exact ⟨_, by simp, hH g h b hb⟩
      · obtain ⟨f, hf, hbf⟩ := hG g h b hb
        exact ⟨f, by simp [hf], hbf⟩
    · cases j with
      | zero =>
        simp at hj
        subst hj
        exact ⟨_, ks, rfl, rfl, hk⟩
      | succ j =>
        simp at hj
        obtain ⟨n, kids, h3, h4, h5⟩ := hr j r hj
        exact ⟨n, kids, by simpa using h3, by simpa using h4, h5⟩

theorem sum_le {e : Nat} : ∀ (us : List (Nd (e + 1))), (∀ u ∈ us, Fit (e + 1) u) → (us.flatMap subs).length ≤ (flatC us).length
  | [], _ => Nat.le_refl _
  | u :: us, h => by
    have h1 := sum_le us fun v hv => h v (by simp [hv])
    have h2 := len_le_flat (e + 1) u (h u (by simp))
    rw [List.flatMap_cons, flatC_cons, List.length_append, List.length_append, subs_length]
    omega

theorem flatten_nil_rows : ∀ (n : Nat), (List.replicate n ([] : List Nat)).flatten = []
  | 0 => rfl
  | n + 1 => by rw [List.replicate_succ, List.flatten_cons, flatten_nil_rows n]; rfl

/-- One level on. -/
theorem Lv.step {B : Nat} {w : World} {rs : List Nat} {rest : List (List Nat)} {len : Nat} (h : Lv B w rs rest len) (hne : rs ≠ []) :
    ∃ (sz : List Nat) (rss : List (List Nat)) (rest' : List (List Nat)), rest = sz :: rest' ∧ sz.length = rs.length ∧ rss.length = rs.length ∧ rss.flatten.length ≤ len ∧ (∀ (j r : Nat), rs[j]? = some r → ∃ (n : Nat) (kids : List Nat), sz[j]? = some n ∧ rss[j]? = some kids ∧ NodeRow w r n kids) ∧ ∀ w', Only (fun b => B ≤ b) w w' → Lv B w' rss.flatten rest' len := by
  rcases h with ⟨h, _⟩ | ⟨e, us, Fs, h1, h2, rfl, h4, h5, hB⟩
  · exact absurd h hne
  · have hlen := h1.lenR
    cases e with
    | zero =>
      refine ⟨us.map List.length, List.replicate rs.length [], [], rfl, by simp [hlen], by simp, by rw [flatten_nil_rows]; simp, fun j r hj => ?_, fun w' _ => .inl ⟨flatten_nil_rows _, rfl⟩⟩
      obtain ⟨n, h6, h7⟩ := rows_zero h1 j r hj
      refine ⟨n, [], h6, ?_, h7⟩
      rw [List.getElem?_replicate, if_pos (List.getElem?_eq_some_iff.1 hj).1]
    | succ e =>
      obtain ⟨rss, hl, ⟨Gs, hg, hG⟩, hr⟩ := rows_succ h1
      have hGB : ∀ g ∈ Gs, ∀ b ∈ g, b < B := fun g hg b hb => by
        obtain ⟨f, hf, hbf⟩ := hG g hg b hb
        exact hB f hf b hbf
      have hfl := hg.lenR
      have hsum := sum_le us fun u hu => (h4 u hu).1
      refine ⟨us.map List.length, rss, shp e (us.flatMap subs), rfl, by simp [hlen], hl, by omega, fun j r hj => hr j r hj, fun w' hs => .inr ⟨e, us.flatMap subs, Gs, hg.imp fun _ _ f hf h => h.only hs fun b hb e => by have := hGB f hf b hb; omega, ?_, rfl, fun c hc => ?_, by rw [flatC_down]; exact h5, hGB⟩⟩
      · intro h0
        rw [h0] at hfl
        cases us with
        | nil =>
          simp at hlen
          exact hne hlen
        | cons u us =>
          have := (h4 u (by simp)).2
          rw [List.flatMap_cons, List.length_append, subs_length] at hfl
          simp at hfl
          omega
      · obtain ⟨u, hu, hcu⟩ := List.mem_flatMap.1 hc
        obtain ⟨x, hx, rfl⟩ := subs_mem hcu
        have := (h4 u hu).1 x hx
        exact ⟨this.2.2.2, .inr (by omega)⟩

/-- Cells of numbers. -/
def icells (l : List Nat) : List Value := l.map fun n : Nat => .int .i64 (n : Int)
theorem icells_one (l : List Nat) : ∀ u ∈ icells l, u.oneCell' = true := by
  intro u hu
  simp only [icells, List.mem_map] at hu
  obtain ⟨a, _, rfl⟩ := hu
  rfl
theorem icells_append (a b : List Nat) : icells (a ++ b) = icells a ++ icells b := List.map_append

/-- Rows of numbers in memory. -/
def RowsAt (w : World) (N : Nat) (ps : List Value) (ss : List (List Nat)) (R : Nat → Prop) : Prop :=
  ps.length = ss.length ∧ ∀ (i : Nat) (p : Value) (s : List Nat), ps[i]? = some p → ss[i]? = some s → Vec w 1 p s.length (icells s) ∧ ∀ g, p.ownBlock = some g → N ≤ g ∧ g < w.heap.size ∧ R g
theorem RowsAt.only {w w' : World} {N : Nat} {ps : List Value} {ss : List (List Nat)} {R S : Nat → Prop} (h : RowsAt w N ps ss R) (ho : Only S w w') (hs : ∀ g, R g → ¬ S g) : RowsAt w' N ps ss R :=
  ⟨h.1, fun i p s hp hss => by
    obtain ⟨h1, h2⟩ := h.2 i p s hp hss
    exact ⟨h1.only ho fun g hg => hs g (h2 g hg).2.2, fun g hg => ⟨(h2 g hg).1, Nat.lt_of_lt_of_le (h2 g hg).2.1 ho.size, (h2 g hg).2.2⟩⟩⟩
theorem RowsAt.weaken {w : World} {N : Nat} {ps : List Value} {ss : List (List Nat)} {R R' : Nat → Prop} (h : RowsAt w N ps ss R) (hr : ∀ g, N ≤ g → g < w.heap.size → R g → R' g) : RowsAt w N ps ss R' :=
  ⟨h.1, fun i p s hp hs => by
    obtain ⟨h1, h2⟩ := h.2 i p s hp hs
    exact ⟨h1, fun g hg => ⟨(h2 g hg).1, (h2 g hg).2.1, hr g (h2 g hg).1 (h2 g hg).2.1 (h2 g hg).2.2⟩⟩⟩
theorem RowsAt.more {w : World} {N : Nat} {ps : List Value} {ss : List (List Nat)} {R : Nat → Prop} {p : Value} {s : List Nat} (h : RowsAt w N ps ss R) (hp : Vec w 1 p s.length (icells s)) (hg : ∀ g, p.ownBlock = some g → N ≤ g ∧ g < w.heap.size ∧ R g) : RowsAt w N (ps ++ [p]) (ss ++ [s]) R := by
  refine ⟨by simp [h.1], fun i q t hq ht => ?_⟩
  rcases Nat.lt_trichotomy i ps.length with h1 | h1 | h1
  · rw [List.getElem?_append_left h1] at hq
    rw [List.getElem?_append_left (by rw [← h.1]; exact h1)] at ht
    exact h.2 i q t hq ht
  · subst h1
    rw [List.getElem?_append_right (Nat.le_refl _), Nat.sub_self] at hq
    rw [h.1, List.getElem?_append_right (Nat.le_refl _), Nat.sub_self] at ht
    simp at hq ht
    subst hq ht
    exact ⟨hp, hg⟩
  · rw [List.getElem?_eq_none (by simp; omega)] at hq
    cases hq

/-- What the shape is told as. -/
def TShape (w : World) (l : Nd 0) (e : Ending) (w' : World) : Prop :=
  ∃ out ps d, ∃ x : Nd d, e = .returned out ∧ Vec w' 1 out (shp d [x]).length ps ∧ RowsAt w' w.heap.size ps (shp d [x]) (fun g => out.ownBlock ≠ some g) ∧ (∀ g, out.ownBlock = some g → w.heap.size ≤ g ∧ g < w'.heap.size) ∧ (∀ v ∈ ps, v.oneCell' = true) ∧ Still w w' ∧ Good d x ∧ flat d x = l
end Go.Proofs.Ytjmkfppnimengaa
