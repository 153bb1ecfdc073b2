/- The library's swapRange over spots. Conditions: a slice that may be written. -/
import Derived.Test.YtpppphalacojjaaPlanD
namespace Go.Proofs.Ytpppphalacojjaa
open Go.RowKit Go.Wh

/-- The six cells of two spots. -/
structure At2 (w : World) (g o p q : Nat) (y x : Spot) : Prop where
  c0 : w.cell? ⟨g, o + p * 3, none⟩ = some (.string y.key)
  c1 : w.cell? ⟨g, o + p * 3 + 1, none⟩ = some (.int .i64 y.p)
  c2 : w.cell? ⟨g, o + p * 3 + 2, none⟩ = some (.int .i64 y.c)
  d0 : w.cell? ⟨g, o + q * 3, none⟩ = some (.string x.key)
  d1 : w.cell? ⟨g, o + q * 3 + 1, none⟩ = some (.int .i64 x.p)
  d2 : w.cell? ⟨g, o + q * 3 + 2, none⟩ = some (.int .i64 x.c)
  e0 : w.frozen? ⟨g, o + p * 3, none⟩ = false
  e1 : w.frozen? ⟨g, o + p * 3 + 1, none⟩ = false
  e2 : w.frozen? ⟨g, o + p * 3 + 2, none⟩ = false
  f0 : w.frozen? ⟨g, o + q * 3, none⟩ = false
  f1 : w.frozen? ⟨g, o + q * 3 + 1, none⟩ = false
  f2 : w.frozen? ⟨g, o + q * 3 + 2, none⟩ = false

theorem spot_cells {w : World} {g o n cap : Nat} {l : List Spot} (h : VecAt w 3 g o n cap (flat l)) (k : Nat) (hk : k < l.length) :
    (w.cell? ⟨g, o + k * 3, none⟩ = some (.string l[k].key) ∧ w.cell? ⟨g, o + k * 3 + 1, none⟩ = some (.int .i64 l[k].p) ∧ w.cell? ⟨g, o + k * 3 + 2, none⟩ = some (.int .i64 l[k].c)) ∧
    w.frozen? ⟨g, o + k * 3, none⟩ = false ∧ w.frozen? ⟨g, o + k * 3 + 1, none⟩ = false ∧ w.frozen? ⟨g, o + k * 3 + 2, none⟩ = false := by
  have hl := h.len
  rw [flat_length] at hl
  have e : l = l.take k ++ l[k] :: l.drop (k + 1) := by
    rw [← List.drop_eq_getElem_cons hk, List.take_append_drop]
  have a := flat_at (l.take k) l[k] (l.drop (k + 1))
  rw [← e] at a
  have hk2 : (l.take k).length = k := by simp; omega
  rw [hk2] at a
  refine ⟨⟨?_, ?_, ?_⟩, ?_, ?_, ?_⟩
  · rw [h.cells _ (by omega)]; exact a.1
  · rw [Nat.add_assoc, h.cells _ (by omega)]; exact a.2.1
  · rw [Nat.add_assoc, h.cells _ (by omega)]; exact a.2.2
  · exact h.free _ (by omega)
  · rw [Nat.add_assoc]; exact h.free _ (by omega)
  · rw [Nat.add_assoc]; exact h.free _ (by omega)

theorem at2_of {w : World} {g o n cap : Nat} {l : List Spot} (h : VecAt w 3 g o n cap (flat l)) (p q : Nat) (hp : p < l.length) (hq : q < l.length) : At2 w g o p q l[p] l[q] := by
  obtain ⟨⟨c0, c1, c2⟩, e0, e1, e2⟩ := spot_cells h p hp
  obtain ⟨⟨d0, d1, d2⟩, f0, f1, f2⟩ := spot_cells h q hq
  exact ⟨c0, c1, c2, d0, d1, d2, e0, e1, e2, f0, f1, f2⟩

theorem flat_set (l : List Spot) (k : Nat) (hk : k < l.length) (x : Spot) : (((flat l).set (k * 3) (.string x.key)).set (k * 3 + 1) (.int .i64 x.p)).set (k * 3 + 2) (.int .i64 x.c) = flat (l.set k x) := by
  have e : l = l.take k ++ l[k] :: l.drop (k + 1) := by
    rw [← List.drop_eq_getElem_cons hk, List.take_append_drop]
  have hk2 : (l.take k).length = k := by simp; omega
  have hf : (flat (l.take k)).length = k * 3 := by rw [flat_length, hk2]
  have e1 : flat l = flat (l.take k) ++ flat (l[k] :: l.drop (k + 1)) := by rw [← flat_append, ← e]
  have e2 : l.set k x = l.take k ++ x :: l.drop (k + 1) := by
    rw [List.set_eq_take_append_cons_drop, if_pos hk]
  rw [e1, e2, flat_append, flat_cons, flat_cons, set_behind0 _ _ _ _ hf, set_behind _ _ _ _ _ hf, set_behind _ _ _ _ _ hf]
  rfl

theorem setSpot {w : World} {g o n cap : Nat} {l : List Spot} (h : VecAt w 3 g o n cap (flat l)) (k : Nat) (hk : k < l.length) (x : Spot) :
    VecAt (((w.setCell ⟨g, o + k * 3, none⟩ (.string x.key)).setCell ⟨g, o + k * 3 + 1, none⟩ (.int .i64 x.p)).setCell ⟨g, o + k * 3 + 2, none⟩ (.int .i64 x.c)) 3 g o n cap (flat (l.set k x)) := by
  have hl := h.len
  rw [flat_length] at hl
  have h1 := h.set (k * 3) (by omega) (.string x.key)
  have h2 := h1.set (k * 3 + 1) (by omega) (.int .i64 x.p)
  have h3 := h2.set (k * 3 + 2) (by omega) (.int .i64 x.c)
  rw [flat_set l k hk x] at h3
  simp only [← Nat.add_assoc] at h3
  exact h3

theorem only_setSpot {w : World} {g o k : Nat} (a b c : Value) : Only (fun j => j = g) w (((w.setCell ⟨g, o + k * 3, none⟩ a).setCell ⟨g, o + k * 3 + 1, none⟩ b).setCell ⟨g, o + k * 3 + 2, none⟩ c) :=
  have h1 : Only (fun j => j = g) w (w.setCell ⟨g, o + k * 3, none⟩ a) := (Only.refl (fun j => j = g) w).setCell (p := ⟨g, o + k * 3, none⟩) (.inl rfl) a
  have h2 := h1.setCell (p := ⟨g, o + k * 3 + 1, none⟩) (.inl rfl) b
  h2.setCell (p := ⟨g, o + k * 3 + 2, none⟩) (.inl rfl) c

/-- The world behind 'data[p], data[q] = data[q], data[p]'. -/
def swapW (w : World) (g o p q : Nat) (y x : Spot) : World :=
  (((((w.setCell ⟨g, o + p * 3, none⟩ (.string x.key)).setCell ⟨g, o + p * 3 + 1, none⟩ (.int .i64 x.p)).setCell ⟨g, o + p * 3 + 2, none⟩ (.int .i64 x.c)).setCell ⟨g, o + q * 3, none⟩ (.string y.key)).setCell ⟨g, o + q * 3 + 1, none⟩ (.int .i64 y.p)).setCell ⟨g, o + q * 3 + 2, none⟩ (.int .i64 y.c)

def swapL (l : List Spot) (p q : Nat) : List Spot := match l[p]?, l[q]? with
  | some y, some x => (l.set p x).set q y
  | _, _ => l
theorem swapL_len (l : List Spot) (p q : Nat) : (swapL l p q).length = l.length := by
  unfold swapL
  split <;> simp
theorem swapL_perm (l : List Spot) (p q : Nat) (hp : p < l.length) (hq : q < l.length) : swapL l p q = (l.set p l[q]).set q l[p] := by
  unfold swapL
  rw [List.getElem?_eq_getElem hp, List.getElem?_eq_getElem hq]

theorem swapW_vec {w : World} {g o n cap : Nat} {l : List Spot} (h : VecAt w 3 g o n cap (flat l)) (p q : Nat) (hp : p < l.length) (hq : q < l.length) : VecAt (swapW w g o p q l[p] l[q]) 3 g o n cap (flat (swapL l p q)) := by
  rw [swapL_perm l p q hp hq]
  exact setSpot (setSpot h p hp l[q]) q (by simpa using hq) l[p]
theorem swapW_only (w : World) (g o p q : Nat) (y x : Spot) : Only (fun j => j = g) w (swapW w g o p q y x) := (only_setSpot _ _ _).trans (only_setSpot _ _ _)

/-- What swapRange does to the row. -/
def swapsL (l : List Spot) (a b : Nat) : Nat → List Spot
  | 0 => l
  | i + 1 => swapL (swapsL l a b i) (a + i) (b + i)
theorem swapsL_succ (l : List Spot) (a b i : Nat) : swapsL l a b (i + 1) = swapL (swapsL l a b i) (a + i) (b + i) := rfl
theorem _root_.Go.Wh.VecAt.drew {w : World} {size g o n cap : Nat} {xs : List Value} (h : VecAt w size g o n cap xs) : VecAt w.drew size g o n cap xs := VecAt.block (w' := w.drew) h rfl
theorem swapsL_len (l : List Spot) (a b : Nat) : ∀ i, (swapsL l a b i).length = l.length
  | 0 => rfl
  | i + 1 => by
    show (swapL _ _ _).length = _
    rw [swapL_len, swapsL_len l a b i]

structure SwRel (w : World) (g o n cap : Nat) (l : List Spot) (a b i : Nat) (wr : World) : Prop where
  vec : VecAt wr 3 g o n cap (flat (swapsL l a b i))
  only : Only (fun k => k = g) w wr

theorem SwRel.step {w : World} {g o n cap : Nat} {l : List Spot} {a b i : Nat} {wr : World} (h : SwRel w g o n cap l a b i wr) (hl : l.length = n) (ha : a + i < n) (hb : b + i < n) {p q : Nat} (hp : p = a + i) (hq : q = b + i) :
    ∃ y x, At2 wr g o p q y x ∧ SwRel w g o n cap l a b (i + 1) (swapW wr g o p q y x).drew := by
  subst hp hq
  have hlen := (swapsL_len l a b i).trans hl
  have hp : a + i < (swapsL l a b i).length := by omega
  have hq : b + i < (swapsL l a b i).length := by omega
  have h1 := at2_of h.vec (a + i) (b + i) hp hq
  have h2 := swapW_vec h.vec (a + i) (b + i) hp hq
  generalize (swapsL l a b i)[a + i] = y at h1 h2
  generalize (swapsL l a b i)[b + i] = x at h1 h2
  have h3 : VecAt (swapW wr g o (a + i) (b + i) y x).drew 3 g o n cap (flat (swapsL l a b (i + 1))) := by
    rw [swapsL_succ]
    exact h2.drew
  have h4 := h.only.trans (swapW_only wr g o (a + i) (b + i) y x).drew
  exact ⟨y, x, h1, SwRel.mk h3 h4⟩

def RowPost (w : World) (g o n cap : Nat) (l' : List Spot) (e : Ending) (w' : World) : Prop :=
  e = .returned (.tuple #[]) ∧ VecAt w' 3 g o n cap (flat l') ∧ Only (fun k => k = g) w w'

set_option maxRecDepth 100000 in
set_option maxHeartbeats 2000000 in
theorem swapRange_any (g o n cap : Nat) (l : List Spot) (a b m : Nat) (w : World) (cmp : Value) (h : VecAt w 3 g o n cap (flat l)) (ha : a + m ≤ n) (hb : b + m ≤ n) (hab : a + m ≤ b) (hn : n ≤ 10000) :
    Calls Try.prog 24 #[.slice (some ⟨g, o, none⟩) n cap, .int .i64 a, .int .i64 b, .int .i64 m, cmp] w (RowPost w g o n cap (swapsL l a b m)) := by
  have hl : l.length = n := by
    have := h.len
    rw [flat_length] at this
    omega
  have HL := Lib.hid hl
  have H0 := Lib.hid h
  clear h hl
  go_enter Try.func24, Try.ntmps24
  go_wp2_with fail
  go_loopw [10] (fun s wr => ∃ i : Nat, s = .int .i64 i ∧ i ≤ m ∧ SwRel w g o n cap l a b i wr) (fun s _ => m - (intOf s).toNat)
  case atStart => exact ⟨0, rfl, by omega, ⟨H0.out, Only.refl _ _⟩⟩
  case round =>
    clear H0
    obtain ⟨i, rfl, hi, hr⟩ := hrel
    by_cases him : i < m
    · obtain ⟨p, hp⟩ : ∃ p, p = a + i := ⟨_, rfl⟩
      obtain ⟨q, hq⟩ : ∃ q, q = b + i := ⟨_, rfl⟩
      obtain ⟨y, x, hat, hn2⟩ := hr.step HL.out (by omega) (by omega) hp hq
      have HN := Lib.hid hn2
      clear hn2 hr
      have ep : (a : Int) + (i : Int) = (p : Int) := by omega
      have eq : (b : Int) + (i : Int) = (q : Int) := by omega
      have hpq : p < q := by omega
      have hqn : q < n := by omega
      clear hp hq
      have c0 := hat.c0
      have c1 := hat.c1
      have c2 := hat.c2
      have d0 := hat.d0
      have d1 := hat.d1
      have d2 := hat.d2
      have e0 := hat.e0
      have e1 := hat.e1
      have e2 := hat.e2
      have f0 := hat.f0
      have f1 := hat.f1
      have f2 := hat.f2
      clear hat
      go_wp2_with fail
      have a1 : (0 : Int) ≤ (p : Int) := by omega
      have a2 : (p : Int) < (n : Int) := by omega
      have a3 : (0 : Int) ≤ (q : Int) := by omega
      have a4 : (q : Int) < (n : Int) := by omega
      have a6 : IntKind.i64.wrap (p : Int) = (p : Int) := IntWalk.i64_in _ (by omega)
      have a7 : IntKind.i64.wrap (q : Int) = (q : Int) := IntWalk.i64_in _ (by omega)
      go_region
      clear a1 a2 a3 a4 a6 a7
      clear c0 c1 c2 d0 d1 d2 e0 e1 e2 f0 f1 f2
      go_wp2_with fail
      go_roundw
      case rel => exact ⟨i + 1, by go_num, by omega, HN.out⟩
      case measure => simp [intOf]; omega
    · have him2 : i = m := by omega
      subst him2
      have F := Lib.hid (show RowPost w g o n cap (swapsL l a b i) (.returned (.tuple #[])) wr from ⟨rfl, hr.vec, hr.only⟩)
      clear hr
      go_wp2_with fail
      go_end0
      exact F.out
end Go.Proofs.Ytpppphalacojjaa
