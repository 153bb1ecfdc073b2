/- A tree that is held by nobody else; and that tree does something. Conditions: none. -/
import Derived.Test.YtjmkfppnimengaaTreeSc
namespace Go.Proofs.Ytjmkfppnimengaa
open Go.RowKit Go.Wh

def BTrue (W : World) (e : Ending) (w' : World) : Prop := e = .returned (.bool true) ∧ Still W w'

/-- A tree whose blocks are younger than w0, and none of A. -/
def Own (w0 : World) (A : Nat → Prop) (w : World) (t : Nat) (l : Nd 0) : Prop := ∃ F, TreeAt w t l F ∧ (∀ b ∈ F, w0.heap.size ≤ b ∧ ¬ A b) ∧ (∀ b, A b → b < w.heap.size)
/-- What turns then. -/
def Mine (w0 : World) (A : Nat → Prop) (w w' : World) : Prop := Only (fun b => w0.heap.size ≤ b ∧ ¬ A b) w w'

section
variable {w0 w w' : World} {A : Nat → Prop} {t : Nat} {l : Nd 0} {k : Key} {v : Rid}
theorem Mine.still {w0 w w' : World} {A : Nat → Prop} (hw : Still w0 w) (h : Mine w0 A w w') : Still w0 w' := by
  have h1 : Only (fun b => w0.heap.size ≤ b ∧ ¬ A b) w0 w' := hw.only.trans h
  exact ⟨h1.os, h1.tape, h1.output, h1.size, fun i hi _ => h1.block i hi fun e => by omega⟩
theorem Own.still (h : Own w0 A w t l) (hs : Still w w') : Own w0 A w' t l := by
  obtain ⟨F, h1, h2, h3⟩ := h
  exact ⟨F, h1.still hs, h2, fun b hb => Nat.lt_of_lt_of_le (h3 b hb) hs.size⟩
theorem Own.only {S : Nat → Prop} (h : Own w0 A w t l) (hs : Only S w w') (hS : ∀ b, S b → A b) : Own w0 A w' t l := by
  obtain ⟨F, h1, h2, h3⟩ := h
  exact ⟨F, h1.only hs fun b hb e => (h2 b hb).2 (hS b e), h2, fun b hb => Nat.lt_of_lt_of_le (h3 b hb) hs.size⟩
theorem Own.ks (h : Own w0 A w t l) : KS (keys l) := by
  obtain ⟨F, h1, _⟩ := h
  exact h1.ks

/-- What is made later is none of it. -/
theorem Own.avoid {B : Nat → Prop} (h : Own w0 A w t l) (hs : Still w w') (hB : ∀ b, B b → w.heap.size ≤ b ∧ b < w'.heap.size) : Own w0 (fun b => A b ∨ B b) w' t l := by
  obtain ⟨F, h1, h2, h3⟩ := h
  refine ⟨F, h1.still hs, fun b hb => ⟨(h2 b hb).1, fun e => ?_⟩, fun b hb => ?_⟩
  · rcases e with e | e
    · exact (h2 b hb).2 e
    · have := h1.lt b hb
      have := (hB b e).1
      omega
  · rcases hb with e | e
    · exact Nat.lt_of_lt_of_le (h3 b e) hs.size
    · exact (hB b e).2
theorem Mine.cell (h : Mine w0 A w w') {p : Addr} {u : Value} (hc : w.cell? p = some u) (hp : A p.block) : w'.cell? p = some u := (Only.cell h (World.block_lt_of_cell? _ _ hc) fun e => e.2 hp).trans hc

theorem own_new (hw : Still w0 w) (hA : ∀ b, A b → b < w.heap.size) : Calls Try.prog 10 #[] w (fun e w' => ∃ t, e = .returned (ptr t) ∧ Own w0 A w' t [] ∧ Still w w') :=
  (new_any w).mono fun e w' ⟨t, F, h1, h2, h3, h4⟩ => ⟨t, h1, ⟨F, h2, fun b hb => ⟨Nat.le_trans hw.size (h4 b hb), fun e => by have := hA b e; have := h4 b hb; omega⟩, fun b hb => Nat.lt_of_lt_of_le (hA b hb) h3.size⟩, h3⟩
theorem own_put (h : Own w0 A w t l) (hl : l.length ≤ 80000) (hw : Still w0 w) (k : Key) (v : Rid) : Calls Try.prog 14 #[ptr t, .string k, ridV v] w (fun e w' => e = .returned (.bool !(hasK (keys l) k)) ∧ Own w0 A w' t (insL l k v) ∧ Mine w0 A w w') := by
  obtain ⟨F, h1, h2, h3⟩ := h
  refine (tput w t l F k v h1 (by omega)).mono fun e w' ⟨F', e1, h4, h5, h6⟩ => ⟨e1, ⟨F', h4, fun b hb => ?_, fun b hb => Nat.lt_of_lt_of_le (h3 b hb) h5.size⟩, h5.mono h2⟩
  rcases h6 b hb with h | h
  · exact h2 b h
  · exact ⟨Nat.le_trans hw.size h, fun e => by have := h3 b e; omega⟩
theorem own_cut (h : Own w0 A w t l) (hl : l.length ≤ 80000) (hw : Still w0 w) (k : Key) : Calls Try.prog 12 #[ptr t, .string k] w (fun e w' => e = .returned (.bool (hasK (keys l) k)) ∧ Own w0 A w' t (delL l k) ∧ Mine w0 A w w') := by
  obtain ⟨F, h1, h2, h3⟩ := h
  refine (tcut w t l F k h1 (by omega)).mono fun e w' ⟨F', e1, h4, h5, h6⟩ => ⟨e1, ⟨F', h4, fun b hb => ?_, fun b hb => Nat.lt_of_lt_of_le (h3 b hb) h5.size⟩, h5.mono h2⟩
  rcases h6 b hb with h | h
  · exact h2 b h
  · exact ⟨Nat.le_trans hw.size h, fun e => by have := h3 b e; omega⟩
theorem own_get (h : Own w0 A w t l) (k : Key) : Calls Try.prog 16 #[ptr t, .string k] w (TGet w l k) := by
  obtain ⟨F, h1, h2, h3⟩ := h
  exact tget w t l F k h1
theorem own_from (h : Own w0 A w t l) (hl : l.length ≤ 80000) (k : Key) (most : Int) : Calls Try.prog 21 #[ptr t, .string k, .int .i64 most] w (TFrom w l k most) := by
  obtain ⟨F, h1, h2, h3⟩ := h
  exact tfrom w t l F k most h1 (by omega)
theorem own_shape (h : Own w0 A w t l) (hl : l.length ≤ 80000) : Calls Try.prog 20 #[ptr t] w (TShape w l) := by
  obtain ⟨F, h1, h2, h3⟩ := h
  exact tshape w t l F h1 (by omega)
theorem own_len (h : Own w0 A w t l) : Calls Try.prog 18 #[ptr t] w (fun e w' => e = .returned (.int .i64 l.length) ∧ w' = w) := by
  obtain ⟨F, h1, h2, h3⟩ := h
  exact len_any w t l F h1
end

/-- Two keys. -/
def kA : Key := ⟨#[97]⟩
def kB : Key := ⟨#[98]⟩
def lAB : Nd 0 := [kr kA (2, 0), kr kB (1, 0)]
theorem ins_B : insL [] kB (1, 0) = [kr kB (1, 0)] := by kernel_rfl
theorem ins_A : insL [kr kB (1, 0)] kA (2, 0) = lAB := by kernel_rfl
theorem from_AB : fromL lAB kA (-1) = lAB := by kernel_rfl
theorem get_B : getL lAB kB = some (1, 0) := by kernel_rfl
theorem del_A : delL lAB kA = [kr kB (1, 0)] := by kernel_rfl
theorem shape_AB {w w' : World} {e : Ending} (h : TShape w lAB e w') : ∃ g o c g2 o2 c2, e = .returned (.slice (some ⟨g, o, none⟩) 1 c) ∧ w'.cell? ⟨g, o, none⟩ = some (.slice (some ⟨g2, o2, none⟩) 1 c2) ∧ w'.cell? ⟨g2, o2, none⟩ = some (.int .i64 2) ∧ (∀ b, b = g ∨ b = g2 → w.heap.size ≤ b ∧ b < w'.heap.size) ∧ Still w w' := by
  obtain ⟨out, ps, d, x, rfl, h1, h2, h3, h4, h5, h6, h7⟩ := h
  have hd : d = 0 := by
    rcases h6.two with h0 | h0
    · exact h0
    · have h8 := flat_least d x h6.fit
      have h9 : 2 * 2 ^ d ≤ x.length * 2 ^ d := Nat.mul_le_mul_right _ h0
      rw [h7] at h8
      have h10 : lAB.length = 2 := rfl
      have h11 : d < 2 ^ d := Nat.lt_two_pow_self
      omega
  subst hd
  have hx : x = lAB := h7
  subst hx
  have hs : shp 0 [lAB] = [[2]] := rfl
  rw [hs] at h1 h2
  obtain ⟨g, o, c, rfl, hv⟩ := h1.form (by simp)
  have hpl := h2.1
  obtain ⟨p, hp⟩ : ∃ p, ps = [p] := by
    cases ps with
    | nil => simp at hpl
    | cons p t => cases t with
      | nil => exact ⟨p, rfl⟩
      | cons q t => simp at hpl
  subst hp
  obtain ⟨hp1, hp2⟩ := h2.2 0 p [2] rfl rfl
  obtain ⟨g2, o2, c2, rfl, hv2⟩ := hp1.form (by simp)
  refine ⟨g, o, c, g2, o2, c2, rfl, hv.cell 0 (by simp), hv2.cell 0 (by simp), fun b hb => ?_, h5⟩
  rcases hb with rfl | rfl
  · exact h3 b rfl
  · exact ⟨(hp2 b rfl).1, (hp2 b rfl).2.1⟩

set_option maxHeartbeats 1000000 in
set_option maxRecDepth 100000 in
theorem begun_any (W : World) : Calls Try.prog 9 #[] W (BTrue W) := by
  have HN := Lib.hid (own_new (w0 := W) (A := fun _ => False) (Still.refl W) (fun _ e => e.elim))
  go_enter Try.func9, Try.ntmps9
  go_wp2_with fail
  refine HN.out.mono ?_
  rintro e w1 ⟨t, rfl, ho1, hs1⟩
  have HP1 := Lib.hid (own_put ho1 (by simp) hs1 kB (1, 0))
  have HS1 := Lib.hid hs1
  clear ho1 hs1 HN
  unfold ptr ridV kB at HP1
  unfold ptr
  go_wp2_with fail
  refine HP1.out.mono ?_
  rintro e w2 ⟨rfl, ho2, hm2⟩
  have hs2 := hm2.still HS1.out
  rw [show insL [] ⟨#[98]⟩ (1, 0) = [kr kB (1, 0)] from ins_B] at ho2
  have HP2 := Lib.hid (own_put ho2 (by simp) hs2 kA (2, 0))
  have HS2 := Lib.hid hs2
  clear ho2 hm2 hs2 HP1 HS1
  unfold ptr ridV kA at HP2
  have q1 : (!(hasK (keys ([] : Nd 0)) ⟨#[98]⟩)) = true := by kernel_rfl
  rw [q1]
  clear q1
  go_wp2_with fail
  refine HP2.out.mono ?_
  rintro e w3 ⟨rfl, ho3, hm3⟩
  have hs3 := hm3.still HS2.out
  rw [show insL [kr kB (1, 0)] ⟨#[97]⟩ (2, 0) = lAB from ins_A] at ho3
  have HG := Lib.hid (own_get ho3 kB)
  have HO3 := Lib.hid ho3
  have HS3 := Lib.hid hs3
  clear ho3 hm3 hs3 HP2 HS2
  unfold ptr kB at HG
  have q1 : (!(hasK (keys [kr kB (1, 0)]) ⟨#[97]⟩)) = true := by kernel_rfl
  rw [q1]
  clear q1
  go_wp2_with fail
  refine HG.out.mono ?_
  rintro e w4 ⟨rfl, hs4⟩
  rw [show getL lAB ⟨#[98]⟩ = some (1, 0) from get_B]
  have hs5 : Still w3 (w4.alloc (.cells #[.int .i64 1, .int .i64 0] 35)) := hs4.trans ((Only.refl (fun _ => False) w4).alloc _)
  have c4 : (w4.alloc (.cells #[.int .i64 1, .int .i64 0] 35)).cell? ⟨w4.heap.size, 0, none⟩ = some (.int .i64 1) := (cellsAt_new w4 [.int .i64 1, .int .i64 0] 35).cell 0
  have hs3 : Still W _ := HS3.out.trans hs5
  have ho5 := HO3.out.still hs5
  have HH := Lib.hid (And.intro c4 (And.intro hs3 ho5))
  clear HG hs4 hs5 c4 hs3 ho5 HO3 HS3
  unfold ridV
  go_wp2_with fail
  have hh := HH.out
  clear HH
  generalize w4.alloc (.cells #[.int .i64 1, .int .i64 0] 35) = w5 at *
  obtain ⟨c5, hs5, ho5⟩ := hh
  have HF := Lib.hid (own_from ho5 (by simp [lAB]) kA (-1))
  have HO5 := Lib.hid (And.intro c5 (And.intro hs5 ho5))
  clear c5 hs5 ho5
  generalize w4.heap.size = b4 at *
  unfold ptr kA at HF
  refine HF.out.mono ?_
  rintro e w6 ⟨kv, vv, rfl, ht⟩
  rw [show fromL lAB ⟨#[97]⟩ (-1) = lAB from from_AB] at ht
  have hk := ht.k
  have hv := ht.v
  obtain ⟨gk, ok, ck, rfl, hkk⟩ := hk.form (by simp [lAB])
  obtain ⟨va, vc, rfl⟩ := hv.form'
  have hl2 : lAB.length = 2 := rfl
  rw [hl2]
  have k6 : w6.cell? ⟨gk, ok, none⟩ = some (.string ⟨#[97]⟩) := hkk.cell 0 (by simp [lAB])
  have c6 := Still.cell ht.still HO5.out.1
  have ho6 := HO5.out.2.2.still ht.still
  have HSh := Lib.hid (own_shape ho6 (by simp [lAB]))
  have H6 := Lib.hid (And.intro k6 (And.intro c6 (And.intro ho6 (HO5.out.2.1.trans ht.still))))
  clear hk hkk hv ht hl2 k6 c6 ho6 HF HO5
  unfold ptr at HSh
  go_wp2_with fail
  refine HSh.out.mono ?_
  intro e w7 h7
  obtain ⟨g, o, c, g2, o2, c2, rfl, x1, x2, x3, hs7⟩ := shape_AB h7
  have k7 := Still.cell hs7 H6.out.1
  have c7 := Still.cell hs7 H6.out.2.1
  have ho7 := H6.out.2.2.1.avoid hs7 x3
  have hs8 := H6.out.2.2.2.trans hs7
  have HL := Lib.hid (own_len ho7)
  have HC := Lib.hid (own_cut ho7 (by simp [lAB]) hs8 kA)
  have H7 := Lib.hid (And.intro hs8 (And.intro x1 x2))
  clear h7 x3 hs7 ho7 hs8 H6 HSh
  unfold ptr at HL HC
  unfold kA at HC
  have e2 : lAB.length = 2 := rfl
  rw [e2] at HL
  clear e2
  go_wp2_with fail
  refine HL.out.mono ?_
  rintro e w7 ⟨rfl, rfl⟩
  clear HL
  go_wp2_with fail
  refine HC.out.mono ?_
  rintro e w8 ⟨rfl, ho8, hm8⟩
  rw [show delL lAB ⟨#[97]⟩ = [kr kB (1, 0)] from del_A] at ho8
  have q1 : hasK (keys lAB) ⟨#[97]⟩ = true := by kernel_rfl
  rw [q1]
  have hs8 := hm8.still H7.out.1
  have x1' := hm8.cell H7.out.2.1 (.inr (.inl rfl))
  have x2' := hm8.cell H7.out.2.2 (.inr (.inr rfl))
  have HC2 := Lib.hid (own_cut ho8 (by simp) hs8 kA)
  have H8 := Lib.hid (And.intro hs8 (And.intro x1' x2'))
  clear q1 ho8 hm8 hs8 x1' x2' HC x1 x2
  unfold ptr kA at HC2
  go_wp2_with fail
  refine HC2.out.mono ?_
  rintro e w9 ⟨rfl, -, hm9⟩
  have q1 : hasK (keys [kr kB (1, 0)]) ⟨#[97]⟩ = false := by kernel_rfl
  rw [q1]
  have FIN := Lib.hid (show BTrue W (.returned (.bool true)) w9 from ⟨rfl, hm9.still H8.out.1⟩)
  have x1 := hm9.cell H8.out.2.1 (.inr (.inl rfl))
  have x2 := hm9.cell H8.out.2.2 (.inr (.inr rfl))
  clear q1 hm9 HC2
  go_wp2_with fail
  go_ret
  exact FIN.out
end Go.Proofs.Ytjmkfppnimengaa
