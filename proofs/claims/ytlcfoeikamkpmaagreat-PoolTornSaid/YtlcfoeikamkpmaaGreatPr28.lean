/- A pool on a disk that nothing cuts: a page got, set, flushed; a new one: plain. No program. No conditions. What whimlaw8's begun reckons: plain. No conditions. begun answers true. No conditions. Where a law about pools stands: contracts of the pool's methods by what they show; rows of one letter. Conditions: the pool, the disk and the trail lie in memory. A page of a pool, by what it shows; two pools of one disk. Conditions: the pools, the disk and the trail lie in memory. A row of nobody's, by colours. Conditions: it lies in memory. A pool with no dirty page turns nothing on the disk: plain. No program. No conditions. The document's blank: is a cell empty, or noughts alone? Conditions: it lies in memory. The document's SamePage: two pages with the same cells are the same. Conditions: they lie in memory. Sets and flushes of pages, read by another pool: plain. No program. No conditions. -/
import Derived.Test.YtlcfoeikamkpmaaGreatPr27
import Derived.Lib.BufferRead
import Derived.BigQuiet
namespace Go.Proofs.YtlcfoeikamkpmaaGreat
open Go.Wh

section
variable {cf : PCf} {s : PSt} {C : Int → PPg}
theorem may_in {k : Int} (h0 : 0 ≤ k) (h1 : k < cf.pages) : cf.may k = true := by
 unfold PCf.may
 simp [h0, h1]
theorem pigeon3 (h : Good cf s C) (hp : cf.pages = 3) (hl : s.H.l.length = 3) {k : Int} (h0 : 0 ≤ k) (h1 : k < cf.pages) (hk : s.H.look k = none) : ∃ x ∈ s.H.l, x.has = false := by
 apply Classical.byContradiction
 intro hno
 have hall : ∀ x ∈ s.H.l, x.has = true := fun x hx => by
  cases e : x.has with
  | true => rfl
  | false => exact absurd ⟨x, hx, e⟩ hno
 obtain ⟨x, hx⟩ : ∃ x, s.H.l[0]? = some x := ⟨_, List.getElem?_eq_getElem (by omega)⟩
 obtain ⟨y, hy⟩ : ∃ x, s.H.l[1]? = some x := ⟨_, List.getElem?_eq_getElem (by omega)⟩
 obtain ⟨z, hz⟩ : ∃ x, s.H.l[2]? = some x := ⟨_, List.getElem?_eq_getElem (by omega)⟩
 have key : ∀ {i : Nat} {x : Pl PFr}, s.H.l[i]? = some x → 0 ≤ x.k ∧ x.k < 3 ∧ x.k ≠ k := fun {i x} e => by
  have hl := (look_iff h.nice).2 ⟨i, x, e, hall x (List.mem_of_getElem? e), rfl, rfl⟩
  obtain ⟨a, b, -⟩ := h.key _ _ hl
  refine ⟨a, by omega, fun e2 => ?_⟩
  rw [e2, hk] at hl
  cases hl
 have uni : ∀ {i j : Nat} {x y : Pl PFr}, s.H.l[i]? = some x → s.H.l[j]? = some y → i ≠ j → x.k ≠ y.k := fun {i j x y} e1 e2 hne e => hne (h.nice.uni i j x y e1 e2 (hall x (List.mem_of_getElem? e1)) (hall y (List.mem_of_getElem? e2)) e)
 have kx := key hx
 have ky := key hy
 have kz := key hz
 have u1 := uni hx hy (by decide)
 have u2 := uni hx hz (by decide)
 have u3 := uni hy hz (by decide)
 omega
theorem get_well (h : Good cf s C) {k : Int} (h0 : 0 ≤ k) (h1 : k < cf.pages) :
 ∃ f s', s.get cf k = (0, f, s') ∧ f.p = C k ∧ Good cf s' C ∧ s'.es = s.es ∧ s'.H.l.length = s.H.l.length ∧ s'.H.look k = some f ∧ s.st ≤ s'.st ∧ (∀ j, dirtyK s'.H j = dirtyK s.H j ∨ dirtyK s'.H j = Option.none) ∧ dirtyK s'.H k = dirtyK s.H k ∧
  (cf.pages = 3 → s.H.l.length = 3 → ∀ j, dirtyK s'.H j = dirtyK s.H j) ∧ (cf.tr = true → Last s → Last s') := by
 have hm := may_in (cf := cf) h0 h1
 unfold PSt.get
 rw [if_neg (by rw [hm]; decide)]
 cases hl : s.H.look k with
 | some f =>
  obtain ⟨t1, t2, t3⟩ := touch_spec h.nice k
  obtain ⟨-, -, hf, -⟩ := h.key k f hl
  have hd : ∀ j, dirtyK (s.H.touch k) j = dirtyK s.H j := fun j => by
   unfold dirtyK
   rw [t3 j]
  refine ⟨f, { s with H := s.H.touch k }, rfl, hf, ⟨h.well, h.sep, h.room, t1, h.st_le, h.fit, fun j g hj => h.key j g (by rw [← t3 j]; exact hj), fun j j0 j1 hj => h.none j j0 j1 (by rw [← t3 j]; exact hj)⟩, rfl, t2, by show (s.H.touch k).look k = _; rw [t3 k, hl], Nat.le_refl _, fun j => .inl (hd j), hd k, fun _ _ => hd, fun _ hL => ?_⟩
  rcases hL with e | ⟨q, g, q1, q2, q3⟩
  · exact .inl e
  · exact .inr ⟨q, g, by show (s.H.touch k).look q = _; rw [t3 q, q1], q2, q3⟩
 | none =>
  obtain ⟨s', e, g1, g2, g3, g4, g5, g6, g7, g8⟩ := lay_well h h0 h1 hl
  have hon : takeT (s.tile cf (2 * k)) (s.tile cf (2 * k + 1)) = (0, C k) := h.none k h0 h1 hl
  simp only
  rw [if_neg (by rw [h.well.dead]; decide), hon]
  dsimp only
  rw [if_neg (by decide), e]
  refine ⟨_, s', rfl, rfl, g1, g2, g3, g4, g5, g6, ?_, fun hp hn => g7 (pigeon3 h hp hn h0 h1 hl), g8⟩
  unfold dirtyK
  rw [g4, hl]
  rfl
theorem page_well (h : Good cf s C) {k : Int} (h0 : 0 ≤ k) (h1 : k < cf.pages) :
 ∃ s', s.page cf k = (0, C k, s') ∧ Good cf s' C ∧ s'.es = s.es ∧ s'.H.l.length = s.H.l.length ∧ s.st ≤ s'.st ∧ (∀ j, dirtyK s'.H j = dirtyK s.H j ∨ dirtyK s'.H j = Option.none) ∧ (cf.tr = true → Last s → Last s') := by
 obtain ⟨f, s', e, hf, g1, g2, g3, -, g5, g6, -, -, g7⟩ := get_well h h0 h1
 refine ⟨s', ?_, g1, g2, g3, g5, g6, g7⟩
 unfold PSt.page
 rw [e, if_pos rfl, hf]
def putC (C : Int → PPg) (k : Int) (i : Nat) (b : List Int) (z : Int) : Int → PPg := fun j => if j = k then (C k).set i b z else C j
theorem fit_set {p : PPg} (h : p.fit) {i : Nat} {b : List Int} {z : Int} (hb : b = [] ∨ (b.length = 26 ∧ cellT b = true ∧ nought b = false ∧ Byt b)) (hz : lsnMay z = true) : (p.set i b z).fit := by
 refine ⟨⟨?_, fun l hl => ?_, fun l hl => ?_⟩, hz, fun l hl => ?_⟩
 · show (p.c.set i b).length = 4
   rw [List.length_set, h.ok.four]
 · rcases List.mem_or_eq_of_mem_set hl with e | e
   · exact h.ok.each l e
   · rw [e]
     exact hb.imp id fun e => e.1
 · rcases List.mem_or_eq_of_mem_set hl with e | e
   · exact h.ok.byt l e
   · rw [e]
     rcases hb with e2 | e2
     · rw [e2]
       intro z hz
       cases hz
     · exact e2.2.2.2
 · rcases List.mem_or_eq_of_mem_set hl with e | e
   · exact h.cell l e
   · rw [e]
     exact hb.imp id fun e => ⟨e.2.1, e.2.2.1⟩
theorem set_well (h : Good cf s C) {k i : Int} (h0 : 0 ≤ k) (h1 : k < cf.pages) (i0 : 0 ≤ i) (i4 : i < 4) {b : List Int} {z : Int} (hb : b = [] ∨ (b.length = 26 ∧ cellT b = true ∧ nought b = false ∧ Byt b)) (hz : lsnMay z = true) (hlt : (C k).lsn < z) :
 ∃ s', s.set cf k i b z = (0, s') ∧ Good cf s' (putC C k i.toNat b z) ∧ s'.es = s.es ∧ s'.H.l.length = s.H.l.length ∧ s.st ≤ s'.st ∧
  dirtyK s'.H k = some ⟨k, match dirtyK s.H k with | some x => x.r | none => z⟩ ∧ (∀ j, j ≠ k → dirtyK s'.H j = dirtyK s.H j ∨ dirtyK s'.H j = Option.none) ∧
  (cf.pages = 3 → s.H.l.length = 3 → ∀ j, j ≠ k → dirtyK s'.H j = dirtyK s.H j) ∧ (z = (s.es.length : Int) → Last s') := by
 obtain ⟨f, s1, e, hf, g1, g2, g3, g4, g5, g6, g7, g8, -⟩ := get_well h h0 h1
 unfold PSt.set
 rw [e]
 dsimp only
 rw [if_neg (by decide), if_neg (by
  rintro (h | h | h)
  · omega
  · omega
  · rcases hb with e | e
    · rw [e] at h
      exact h.1 rfl
    · exact h.2 e.1), if_neg (by rw [hf]; omega)]
 obtain ⟨p1, p2, p3⟩ := put_spec g1.nice PFr.void k ⟨f.p.set i.toNat b z, true, if f.dirty = true then f.rec_ else z⟩
 have hlook : ∀ j, (s1.H.put PFr.void k ⟨f.p.set i.toNat b z, true, if f.dirty = true then f.rec_ else z⟩).2.look j = if j = k then some ⟨f.p.set i.toNat b z, true, if f.dirty = true then f.rec_ else z⟩ else s1.H.look j := by
  rcases p3 with ⟨-, -, hq⟩ | ⟨hq, -⟩
  · exact hq
  · rw [g4] at hq
    cases hq
 refine ⟨_, rfl, ⟨g1.well, g1.sep, g1.room, p1, g1.st_le, fun j j0 j1 => ?_, fun j g hj => ?_, fun j j0 j1 hj => ?_⟩, g2, by show (s1.H.put _ _ _).2.l.length = _; rw [p2, g3], g5, ?_, fun j hj => ?_, fun a1 a2 j hj => ?_, fun hz2 => ?_⟩
 · unfold putC
   split
   · rename_i hj
     exact fit_set (h.fit k h0 h1) hb hz
   · exact h.fit j j0 j1
 · have hj' : (s1.H.put PFr.void k ⟨f.p.set i.toNat b z, true, if f.dirty = true then f.rec_ else z⟩).2.look j = some g := hj
   rw [hlook j] at hj'
   unfold putC
   split at hj'
   · rename_i e2
     cases hj'
     rw [if_pos e2, ← hf, e2]
     exact ⟨h0, h1, rfl, fun e => by cases e⟩
   · rename_i e2
     rw [if_neg e2]
     exact g1.key j g hj'
 · have hj' : (s1.H.put PFr.void k ⟨f.p.set i.toNat b z, true, if f.dirty = true then f.rec_ else z⟩).2.look j = Option.none := hj
   rw [hlook j] at hj'
   unfold putC
   split at hj'
   · cases hj'
   · rename_i e2
     rw [if_neg e2]
     exact g1.none j j0 j1 hj'
 · rw [← g7]
   unfold dirtyK
   show (match (s1.H.put PFr.void k ⟨f.p.set i.toNat b z, true, if f.dirty = true then f.rec_ else z⟩).2.look k with | some f => if f.dirty = true then some (⟨k, f.rec_⟩ : Drt) else none | none => none) = _
   rw [hlook k, if_pos rfl, g4]
   dsimp only
   rw [if_pos rfl]
   by_cases hd : f.dirty = true
   · rw [if_pos hd, if_pos hd]
   · rw [if_neg hd, if_neg hd]
 · have : dirtyK (s1.H.put PFr.void k ⟨f.p.set i.toNat b z, true, if f.dirty = true then f.rec_ else z⟩).2 j = dirtyK s1.H j := by
    unfold dirtyK
    rw [hlook j, if_neg hj]
   show dirtyK (s1.H.put PFr.void k _).2 j = _ ∨ dirtyK (s1.H.put PFr.void k _).2 j = _
   rw [this]
   exact g6 j
 · have : dirtyK (s1.H.put PFr.void k ⟨f.p.set i.toNat b z, true, if f.dirty = true then f.rec_ else z⟩).2 j = dirtyK s1.H j := by
    unfold dirtyK
    rw [hlook j, if_neg hj]
   show dirtyK (s1.H.put PFr.void k _).2 j = _
   rw [this]
   exact g8 a1 a2 j
 · refine .inr ⟨k, _, (hlook k).trans (if_pos rfl), rfl, ?_⟩
   show z = (s1.es.length : Int)
   rw [g2]
   exact hz2
theorem flush_well (h : Good cf s C) {k : Int} (h0 : 0 ≤ k) (h1 : k < cf.pages) :
 ∃ s', s.flush cf k = (0, s') ∧ Good cf s' C ∧ s'.es = s.es ∧ s'.H.l.length = s.H.l.length ∧ s.st ≤ s'.st ∧ dirtyK s'.H k = Option.none ∧ (∀ j, j ≠ k → dirtyK s'.H j = dirtyK s.H j) ∧ (cf.tr = true → Last s → Last s') := by
 have hm := may_in (cf := cf) h0 h1
 unfold PSt.flush
 rw [if_neg (by rw [hm]; decide)]
 cases hl : s.H.look k with
 | none => exact ⟨s, rfl, h, rfl, rfl, Nat.le_refl _, by unfold dirtyK; rw [hl], fun _ _ => rfl, fun _ e => e⟩
 | some f =>
  obtain ⟨-, -, hf, -⟩ := h.key k f hl
  simp only
  by_cases hd : f.dirty = false
  · rw [if_pos hd]
    exact ⟨s, rfl, h, rfl, rfl, Nat.le_refl _, by unfold dirtyK; rw [hl]; simp [hd], fun _ _ => rfl, fun _ e => e⟩
  · rw [if_neg hd]
    obtain ⟨D', ew, ww, lw, ow, kw⟩ := write_well h h0 h1 hf
    rw [ew]
    dsimp only
    rw [if_neg (by decide)]
    obtain ⟨t1, t2, t3⟩ := swap_spec h.nice k { f with dirty := false }
    have hlk : ∀ j, (s.H.swap k { f with dirty := false }).look j = if j = k then some { f with dirty := false } else s.H.look j := fun j => by
     rw [t3 j, hl]
     simp
    refine ⟨⟨D', s.es, stW cf s (C k).lsn, s.H.swap k { f with dirty := false }⟩, rfl, ⟨ww, h.sep, by rw [lw]; exact h.room, t1, ?_, h.fit, fun j g hj => ?_, fun j j0 j1 hj => ?_⟩, rfl, t2, ?_, ?_, fun j hj => ?_, fun ht hL => ?_⟩
    · show stW cf s _ ≤ s.es.length
      unfold stW
      split
      · exact Nat.le_refl _
      · exact h.st_le
    · have hj' : (s.H.swap k { f with dirty := false }).look j = some g := hj
      rw [hlk j] at hj'
      split at hj'
      · rename_i e2
        cases hj'
        rw [e2]
        exact ⟨h0, h1, hf, fun _ => ow⟩
      · rename_i e2
        obtain ⟨b0, b1, b2, b3⟩ := h.key j g hj'
        exact ⟨b0, b1, b2, fun e => kw j (C j) b0 b1 e2 (b3 e)⟩
    · have hj' : (s.H.swap k { f with dirty := false }).look j = Option.none := hj
      rw [hlk j] at hj'
      split at hj'
      · cases hj'
      · rename_i e2
        exact kw j (C j) j0 j1 e2 (h.none j j0 j1 hj')
    · show s.st ≤ stW cf s _
      unfold stW
      split
      · exact h.st_le
      · exact Nat.le_refl _
    · show dirtyK (s.H.swap k { f with dirty := false }) k = _
      unfold dirtyK
      rw [hlk k, if_pos rfl]
      simp
    · show dirtyK (s.H.swap k { f with dirty := false }) j = _
      unfold dirtyK
      rw [hlk j, if_neg hj]
    · rcases hL with e | ⟨q, g, q1, q2, q3⟩
      · exact .inl (stW_done e _)
      · by_cases hq : q = k
        · refine .inl ?_
          show stW cf s (C k).lsn = s.es.length
          rw [hq, hl] at q1
          cases q1
          rw [← hf, q3]
          exact stW_last h.st_le ht
        · refine .inr ⟨q, g, ?_, q2, q3⟩
          show (s.H.swap k { f with dirty := false }).look q = _
          rw [hlk q, if_neg hq]
          exact q1
theorem append_well (h : Good cf s C) (p : PE) : Good cf { s with es := s.es ++ [p] } C :=
 ⟨h.well, h.sep, h.room, h.nice, by show s.st ≤ (s.es ++ [p]).length; rw [List.length_append]; have := h.st_le; omega, h.fit, h.key, h.none⟩
end
theorem new_well {m n : Nat} {cf : PCf} (hsep : cf.first + 2 * cf.pages ≤ cf.at_) (hr : cf.at_ + cf.n ≤ m) (hn : 0 < n) : Good cf ⟨newD m, [], 0, mkHd PFr.void n⟩ (fun _ => PPg.void) := by
 obtain ⟨h1, h2⟩ := mk_nice PFr.void hn
 refine ⟨⟨rfl, rfl, rfl⟩, hsep, by rw [newD_len]; exact hr, h1, Nat.le_refl _, fun _ _ _ => fit_void, fun k f hf => ?_, fun k k0 k1 _ => ?_⟩
 · rw [h2 k] at hf
   cases hf
 · unfold onD
   have key : ∀ j : Nat, j < m → (newD m).T.getD j [] = List.replicate 64 0 := fun j hj => by
    unfold newD zeroT
    rw [List.getD_eq_getElem?_getD, List.getElem?_replicate, if_pos hj]
    rfl
   show takeT ((newD m).T.getD _ []) ((newD m).T.getD _ []) = _
   rw [key _ (by omega), key _ (by omega)]
   exact takeT_zero
end Go.Proofs.YtlcfoeikamkpmaaGreat

namespace Go.Proofs.YtlcfoeikamkpmaaGreat
open Go.RowKit Go.Wh Go.Maps

def cfB : PCf := ⟨0, 4, 8, 12, true⟩
def rowBa : List Int := rowB ⟨#[97]⟩ ⟨#[]⟩ ⟨#[]⟩
def sB0 : PSt := ⟨newD 20, [], 0, mkHd PFr.void 2⟩
def sB1 : PSt := (sB0.set cfB 1 0 rowBa 1).2
def sB2 : PSt := (sB1.page cfB 1).2.2
def sB3 : PSt := (sB2.flush cfB 1).2
theorem rowBa_len : rowBa.length = 26 := by kernel_rfl
theorem rowBa_byt : Byt rowBa := by
 intro z hz
 revert z
 decide
theorem b_set : (sB0.set cfB 1 0 rowBa 1).1 = 0 := by kernel_rfl
theorem b_page : (sB1.page cfB 1).1 = 0 ∧ (sB1.page cfB 1).2.1 = ⟨[rowBa, [], [], []], 1⟩ := by
 refine ⟨by kernel_rfl, by kernel_rfl⟩
theorem b_len : sB2.H.l.length ≤ 12 := by decide
theorem b_dirty : dirtyD sB2.H = [⟨1, 1⟩] := by kernel_rfl
theorem b_flush : (sB2.flush cfB 1).1 = 0 := by kernel_rfl
theorem b_len3 : sB3.H.l.length ≤ 12 := by decide
theorem b_none : dirtyD sB3.H = [] := by kernel_rfl
end Go.Proofs.YtlcfoeikamkpmaaGreat

namespace Go.Proofs.YtlcfoeikamkpmaaGreat
open Go.RowKit Go.Wh Go.Maps

def BTrue (W : World) (e : Ending) (w' : World) : Prop := e = .returned (.bool true) ∧ Still W w'
structure Lg (W : World) (c : Nat → Nat) (w : World) : Prop where
 still : Still W w
 hi : ∀ g, c g ≠ 0 → W.heap.size ≤ g
 low : Low c w
theorem Lg.start {W w : World} (h : Still W w) : Lg W (fun _ => 0) w := ⟨h, fun _ e => absurd rfl e, fun _ e => absurd rfl e⟩
theorem Lg.step {W w w' : World} {c c' : Nat → Nat} {X K : Nat → Prop} (h : Lg W c w) (hs : Stp X K c c' w w') (x0 : ¬ X 0) : Lg W c' w' := by
 refine ⟨h.still.andThen hs.only fun g hg e => ?_, fun g hg => ?_, hs.low⟩
 · by_cases h0 : c g = 0
   · rw [h0] at e
     exact x0 e
   · have := h.hi g h0
     omega
 · rcases Nat.lt_or_ge g w.heap.size with h1 | h1
   · rw [hs.old g h1] at hg
     exact h.hi g hg
   · have := h.still.size
     omega
theorem Lg.calm {W w w' : World} {c : Nat → Nat} (h : Lg W c w) (hs : Still w w') : Lg W c w' := h.step (X := fun _ => False) (K := fun _ => False) (Stp.still h.low hs) fun e => e
theorem Lg.none {c : Nat → Nat} {K : Nat → Prop} {X : Nat → Prop} {c' : Nat → Nat} {w w' : World} {j : Nat} (hs : Stp X K c c' w w') (hl : Low c w) (hj : ∀ g, c g ≠ j) (hk : ¬ K j) (j0 : j ≠ 0) : ∀ g, c' g ≠ j := fun g e => by
 have := hs.same hl j0 hk
 have h2 : Cs c' j g := e
 rw [this] at h2
 exact hj g h2
theorem row_slow {w w' : World} {c : Nat → Nat} {v : Value} {l : List Int} {n : Nat} (hl : Low c w) (hv : Vec w' 1 v n (bc l)) (hg : ∀ g, v.ownBlock = some g → w.heap.size ≤ g ∧ g < w'.heap.size) : Sl w' (fun g => c g = 0) 1 v n (bc l) :=
 Vec.sl hv fun g e => ⟨Classical.byContradiction fun h => by have := hl g h; have := (hg g e).1; omega, (hg g e).2⟩
theorem one_dirty {M : List Drt} {x : Drt} (h : M.Perm [x]) : M = [x] := List.perm_singleton.1 h
theorem dif1 : Dif 1 2 3 4 := ⟨by decide, by decide, by decide, by decide, by decide, by decide, by decide, by decide, by decide, by decide⟩
set_option maxHeartbeats 4000000 in
set_option maxRecDepth 100000 in
theorem begun_any (W : World) : Calls Tryz.prog 9 #[] W (BTrue W) := by
 have HN := Lib.hid (dnew_any (Lg.start (Still.refl W)).low 1 (fun _ e => by cases e) 20 (by decide) rfl)
 go_enter Tryz.func9, Tryz.ntmps9
 go_wp2_with fail
 refine HN.out.mono ?_
 rintro en w1 ⟨d, c1, rfl, hs1, hd1⟩
 have L1 := (Lg.start (Still.refl W)).step hs1 fun e => e
 have n2 := Lg.none (j := 2) hs1 (Lg.start (Still.refl W)).low (fun _ e => by cases e) (fun e => by cases e) (by decide)
 have HO := Lib.hid (dopen_new (b := 2) (m := 20) (at_ := 8) (n := 12) L1.low hd1 (by decide) (by decide) n2 (by decide) (by decide) (by decide) rfl rfl)
 have H1 := Lib.hid L1
 clear hs1 hd1 L1 n2 HN
 go_wp2_with fail
 refine HO.out.mono ?_
 rintro en w2 ⟨t, la, lc, c2, rfl, hs2, hd2, ht2⟩
 have L2 := H1.out.step hs2 fun e => by cases e
 have hD2 : Dt c2 1 2 w2 d (some t) cfB sB0 := ⟨L2.low, hd2, fun t' e => by cases e; exact ht2, rfl, newD_fine 20, newD_byt 20, by decide, fun _ => ⟨by decide, by decide⟩, by decide⟩
 have HNP := Lib.hid (pnew_any (m := 3) (r := 4) L2.low d (some t) cfB 2 2 rfl rfl rfl)
 have H2 := Lib.hid (And.intro L2 hD2)
 clear hs2 hd2 ht2 L2 hD2 HO
 go_wp2_with fail
 refine HNP.out.mono ?_
 rintro en w3 ⟨pb, c3, rfl, hs3, hp3⟩
 have L3 := H2.out.1.step hs3 fun e => e
 have hD3 := H2.out.2.keep hs3 (fun e => e) (fun e => e) (fun e => by cases e) (fun e => by cases e) (by decide) (by decide)
 have HRW := Lib.hid (row_any w3 ⟨#[97]⟩ ⟨#[]⟩ ⟨#[]⟩ 1 0 0 rfl rfl rfl (by decide) (by decide) (by decide) (by decide))
 have H3 := Lib.hid (And.intro L3 (And.intro hD3 hp3))
 clear hs3 hp3 L3 hD3 HNP
 go_wp2_with fail
 refine HRW.out.mono ?_
 rintro en w4 ⟨v, rfl, hv, hb, hg⟩
 have hs4 : Still w3 w4 := Still.of hb
 have hsl := row_slow H3.out.1.low hv hg
 have L4 := H3.out.1.calm hs4
 have hD4 := H3.out.2.1.still hs4 (by decide) (by decide)
 have hP4 := H3.out.2.2.still H3.out.1.low hs4 (by decide) (by decide)
 have HST := Lib.hid (pset_any (s := sB0) (a := 1) (b := 2) hD4 dif1 hP4 1 0 (bl := rowBa) hsl (fun g e => e) rowBa_byt 1)
 obtain ⟨va, vc, rfl⟩ := hv.form'
 have H4 := Lib.hid L4
 clear hv hb hg hs4 hsl L4 hD4 hP4 HRW
 go_wp2_with fail
 refine HST.out.mono ?_
 rintro en w5 ⟨he, c5, hs5, hD5, hP5⟩
 rw [b_set] at he
 subst he
 change Dt c5 1 2 w5 d (some t) cfB sB1 at hD5
 change PoAt c5 3 4 w5 pb d (some t) cfB sB1.H at hP5
 have L5 := H4.out.step hs5 fun e => by rcases e with e | e | e <;> cases e
 have HPG := Lib.hid (ppage_any (s := sB1) hD5 dif1 hP5 1)
 have H5 := Lib.hid L5
 clear hs5 hD5 hP5 L5 HST
 go_wp2_with fail
 refine HPG.out.mono ?_
 rintro en w6 ⟨v0, v1, v2, v3, he, c6, hs6, hD6, hP6, hpg⟩
 rw [b_page.1, b_page.2] at he
 rw [b_page.2] at hpg
 subst he
 change Dt c6 1 2 w6 d (some t) cfB sB2 at hD6
 change PoAt c6 3 4 w6 pb d (some t) cfB sB2.H at hP6
 have L6 := H5.out.step hs6 fun e => by rcases e with e | e | e <;> cases e
 have hv0 := hpg.at_ 0 v0 rowBa rfl rfl
 rw [rowBa_len] at hv0
 obtain ⟨xa, xc, rfl⟩ := hv0.form
 have HONE := Lib.hid (show (#[.slice xa 26 xc, v1, v2, v3, .int .i64 1] : Array Value).toList.all (·.oneCell') = true from by
  have := pg_one hpg
  rw [List.all_eq_true]
  intro y hy
  simp only [List.mem_cons, List.not_mem_nil, or_false] at hy
  rcases hy with rfl | rfl | rfl | rfl | rfl
  · exact this _ (by simp)
  · exact this _ (by simp)
  · exact this _ (by simp)
  · exact this _ (by simp)
  · rfl)
 have HCN := Lib.hid (fun w tt => cellsAt_new w [.slice none 0 0, .slice none 0 0, .slice none 0 0, .slice none 0 0, .int .i64 0] tt)
 have H6 := Lib.hid (And.intro L6 (And.intro hD6 hP6))
 clear hs6 hD6 hP6 L6 hv0 hpg HPG
 go_upto_region 9 with ((with_reducible (show wpList _ _ _ ({ dst := none, op := Op.store 36 _ _, type := _, pos := _, after := _, guard := _ } :: _) _ _)); (refine wpList_storeAgg rfl 36 _ _ rfl w6.heap.size #[.slice xa 26 xc, v1, v2, v3, .int .i64 1] rfl rfl (HCN.out _ _) size_page rfl HONE.out ?_; intro w7 hcf hof hzf; have H7 := Lib.hid (And.intro hcf (And.intro hof hzf)); clear hcf hof hzf))
 have hs7 : Still w6 w7 := ((Still.refl w6).alloc _).andThen H7.out.2.1 fun x hx e => by have e' : x = w6.heap.size := e; omega
 have L7 := H6.out.1.calm hs7
 have hD7 := H6.out.2.1.still hs7 (by decide) (by decide)
 have hP7 := H6.out.2.2.still H6.out.1.low hs7 (by decide) (by decide)
 have HDY := Lib.hid (pdirty_any (H := sB2.H) hP7 L7.low (by decide) (by decide) b_len)
 have H7' := Lib.hid (And.intro L7 (And.intro hD7 hP7))
 clear hs7 L7 hD7 hP7 HONE HCN
 go_wp2_with fail
 refine HDY.out.mono ?_
 rintro en w8 ⟨dv, M, rfl, hM, -, hdv, hs8, -⟩
 rw [b_dirty] at hM
 have hM1 := one_dirty hM
 subst hM1
 obtain ⟨ga, go, gc, rfl, hda⟩ := hdv.form (by decide)
 have y0 : w8.cell? ⟨ga, go, none⟩ = some (.int .i64 1) := hda.cells 0 (by decide)
 have y1 : w8.cell? ⟨ga, go + 1, none⟩ = some (.int .i64 1) := hda.cells 1 (by decide)
 have L8 := H7'.out.1.calm hs8
 have hD8 := H7'.out.2.1.still hs8 (by decide) (by decide)
 have hP8 := H7'.out.2.2.still H7'.out.1.low hs8 (by decide) (by decide)
 have hC8 := H7.out.1.only hs8 fun e => e
 have x0 : w8.cell? ⟨w6.heap.size, 0, none⟩ = some (.slice xa 26 xc) := hC8.cell 0
 have x4 : w8.cell? ⟨w6.heap.size, 4, none⟩ = some (.int .i64 1) := hC8.cell 4
 have HFL := Lib.hid (pflush_any (s := sB2) hD8 dif1 hP8 1)
 have H8 := Lib.hid L8
 clear hM hdv hda hs8 L8 hD8 hP8 hC8 HDY
 go_wp2_with fail
 refine HFL.out.mono ?_
 rintro en w9 ⟨he, c9, hs9, hD9, hP9⟩
 rw [b_flush] at he
 subst he
 change PoAt c9 3 4 w9 pb d (some t) cfB sB3.H at hP9
 have L9 := H8.out.step hs9 fun e => by rcases e with e | e | e <;> cases e
 have HDY := Lib.hid (pdirty_any (H := sB3.H) hP9 L9.low (by decide) (by decide) b_len3)
 have H9 := Lib.hid (And.intro L9 hP9)
 clear hs9 hD9 hP9 L9 HFL
 go_wp2_with fail
 refine HDY.out.mono ?_
 rintro en w10 ⟨ev, N, rfl, hN, -, hev, hs10, -⟩
 rw [b_none] at hN
 have hN1 : N = [] := List.perm_nil.1 hN
 subst hN1
 obtain ⟨ea, ec, rfl⟩ := hev.form'
 have hP10 := H9.out.2.still H9.out.1.low hs10 (by decide) (by decide)
 have HPS := Lib.hid (ppages_any hP10 (N := 4) rfl)
 have H10 := Lib.hid (H9.out.1.calm hs10)
 clear hN hev hs10 hP10 HDY
 go_wp2_with fail
 refine HPS.out.mono ?_
 rintro en w11 ⟨rfl, rfl⟩
 have F := Lib.hid (show BTrue W (.returned (.bool true)) w11 from ⟨rfl, H10.out.still⟩)
 clear HPS
 go_wp2_with fail
 go_ret
 exact F.out
end Go.Proofs.YtlcfoeikamkpmaaGreat

namespace Go.Proofs.YtlcfoeikamkpmaaGreat
open Go.RowKit Go.Wh Go.Maps

structure PX (W : World) (c : Nat → Nat) (a b m r : Nat) (w : World) (pb d : Nat) (t : Option Nat) (cf : PCf) (s : PSt) : Prop where
 lg : Lg W c w
 dt : Dt c a b w d t cf s
 po : PoAt c m r w pb d t cf s.H
section
variable {W : World} {c c' : Nat → Nat} {a b m r : Nat} {w w' : World} {pb d : Nat} {t : Option Nat} {cf : PCf} {s : PSt} {X K : Nat → Prop}
theorem PX.keep (h : PX W c a b m r w pb d t cf s) (hf : Dif a b m r) (hs : Stp X K c c' w w') (x0 : ¬ X 0) (xa : ¬ X a) (xb : ¬ X b) (xm : ¬ X m) (xr : ¬ X r) (ka : ¬ K a) (kb : ¬ K b) (kr : ¬ K r) : PX W c' a b m r w' pb d t cf s :=
 ⟨h.lg.step hs x0, h.dt.keep hs xa xb ka kb hf.a0 hf.b0, h.po.keep h.lg.low hs xm xr kr hf.m0 hf.r0⟩
theorem PX.calm (h : PX W c a b m r w pb d t cf s) (hf : Dif a b m r) (hs : Still w w') : PX W c a b m r w' pb d t cf s :=
 ⟨h.lg.calm hs, h.dt.still hs hf.a0 hf.b0, h.po.still h.lg.low hs hf.m0 hf.r0⟩
theorem PX.own (h : PX W c a b m r w pb d t cf s) (hf : Dif a b m r) {g : Nat} (ho : Only (fun x => x = g) w w') (hg : c g = 0) (hw : W.heap.size ≤ g) : PX W c a b m r w' pb d t cf s := by
 have hsc : Stp (fun i => i = 0) (fun _ => False) c c w w' := Stp.owns h.lg.low (ho.mono fun x e => by
  have e' : x = g := e
  show c x = 0
  rw [e']
  exact hg)
 exact ⟨⟨h.lg.still.andThen ho fun x hx e => by have e' : x = g := e; omega, h.lg.hi, hsc.low⟩, h.dt.keep hsc hf.a0 hf.b0 (fun e => e) (fun e => e) hf.a0 hf.b0, h.po.keep h.lg.low hsc hf.m0 hf.r0 (fun e => e) hf.m0 hf.r0⟩
def PxPost (W : World) (c : Nat → Nat) (a b m r : Nat) (w : World) (pb d : Nat) (t : Option Nat) (cf : PCf) (v : Value) (s' : PSt) (e : Ending) (w' : World) : Prop :=
 e = .returned v ∧ ∃ c', Stp (fun i => i = a ∨ i = b ∨ i = m) (fun i => i = a ∨ i = b ∨ i = m ∨ i = r) c c' w w' ∧ PX W c' a b m r w' pb d t cf s'
theorem px_of {v : Value} {s' : PSt} (h : PX W c a b m r w pb d t cf s) (hf : Dif a b m r) {e : Ending} (hp : PoPost c a b m r w pb d t cf v s' e w') : PxPost W c a b m r w pb d t cf v s' e w' := by
 obtain ⟨rfl, c', hs, hd, hp⟩ := hp
 refine ⟨rfl, c', hs.mono (fun _ e => e) fun i e => by rcases e with e | e | e <;> simp [e], h.lg.step hs (fun e => by rcases e with e | e | e; exact hf.a0 e.symm; exact hf.b0 e.symm; exact hf.m0 e.symm), hd, hp⟩
theorem px_set (h : PX W c a b m r w pb d t cf s) (hf : Dif a b m r) (i k : Int) {R : Nat → Prop} {x : Value} {bl : List Int} (hx : Sl w R 1 x bl.length (bc bl)) (hR : ∀ g, R g → c g = 0) (hbb : Byt bl) (y : Int) {E : Int} {s' : PSt} (he : s.set cf i k bl y = (E, s')) :
 Calls Tryz.prog 17 #[.pointer (some ⟨pb, 0, none⟩), .int .i64 i, .int .i64 k, x, .int .i64 y] w (PxPost W c a b m r w pb d t cf (.int .i64 E) s') := by
 refine (pset_any h.dt hf h.po i k hx hR hbb y).mono fun e w' hp => ?_
 rw [he] at hp
 exact px_of h hf hp
theorem px_flush (h : PX W c a b m r w pb d t cf s) (hf : Dif a b m r) (k : Int) {E : Int} {s' : PSt} (he : s.flush cf k = (E, s')) :
 Calls Tryz.prog 21 #[.pointer (some ⟨pb, 0, none⟩), .int .i64 k] w (PxPost W c a b m r w pb d t cf (.int .i64 E) s') := by
 refine (pflush_any h.dt hf h.po k).mono fun e w' hp => ?_
 rw [he] at hp
 exact px_of h hf hp
theorem px_append {t' : Nat} (h : PX W c a b m r w pb d (some t') cf s) (hf : Dif a b m r) {k x : Int} (hm : (nE k x).may = true) (hr : (streamB s.es).length + 25 ≤ cf.n * 63) :
 Calls Tryz.prog 24 #[.pointer (some ⟨t', 0, none⟩), .agg #[.int .i64 k, .int .i64 x, .int .i64 0, .int .i64 0, .int .i64 0, .int .i64 0, .int .i64 0, .int .i64 0, .int .i64 0, .int .i64 0, .slice none 0 0, .slice none 0 0, .slice none 0 0, .slice none 0 0, .slice none 0 0, .slice none 0 0]] w
  (PxPost W c a b m r w pb d (some t') cf (.tuple #[.int .i64 ((s.es.length + 1 : Nat) : Int), .int .i64 0]) { s with es := s.es ++ [nE k x] }) := by
 refine (dt_append h.dt hf.a0 hf.b0 hf.ab hm hr).mono fun e w' hp => ?_
 obtain ⟨rfl, c', hs, hd⟩ := hp
 have hs' : Stp (fun i => i = a ∨ i = b ∨ i = m) (fun i => i = a ∨ i = b ∨ i = m ∨ i = r) c c' w w' := hs.mono (fun i e => .inr (.inl e)) fun i e => .inr (.inl e)
 refine ⟨rfl, c', hs', h.lg.step hs fun e => hf.b0 e.symm, hd, ?_⟩
 exact h.po.keep h.lg.low hs (fun e => hf.bm e.symm) (fun e => hf.br e.symm) (fun e => hf.br e.symm) hf.m0 hf.r0
theorem px_dirty (h : PX W c a b m r w pb d t cf s) (hf : Dif a b m r) (h12 : s.H.l.length ≤ 12) :
 Calls Tryz.prog 19 #[.pointer (some ⟨pb, 0, none⟩)] w (DyPost w s.H) := pdirty_any h.po h.lg.low hf.m0 hf.r0 h12
end
def letS (z : Int) : ByteArray := strOfNums [97 + z % 26]
theorem letR (z : Int) : rowB (letS z) ⟨#[]⟩ ⟨#[]⟩ = rowC (97 + z % 26) [] [] := by
 have h1 : txt (letS z) = [97 + z % 26] := txt_str (l := [97 + z % 26]) (fun x hx => by
  rw [List.mem_singleton.1 hx]
  omega)
 have h2 : (letS z).size = 1 := str_size [97 + z % 26]
 unfold rowB rowC padB padT
 rw [h1, h2]
 rfl
theorem let_ok (z : Int) : (rowC (97 + z % 26) [] []).length = 26 ∧ cellT (rowC (97 + z % 26) [] []) = true ∧ nought (rowC (97 + z % 26) [] []) = false ∧ Byt (rowC (97 + z % 26) [] []) := by
 obtain ⟨n, hn⟩ : ∃ n : Nat, z % 26 = (n : Int) := ⟨(z % 26).toNat, by omega⟩
 rw [hn]
 have hlt : n < 26 := by omega
 refine ⟨rfl, rowC_cell n (List.mem_range.2 hlt), rfl, ?_⟩
 have key : ∀ n ∈ List.range 26, (rowC (97 + (n : Int)) [] []).all (fun x => decide (0 ≤ x) && decide (x ≤ 255)) = true := by decide
 intro x hx
 have := List.all_eq_true.1 (key n (List.mem_range.2 hlt)) x hx
 simp only [Bool.and_eq_true, decide_eq_true_eq] at this
 omega
theorem stream_nE {es : List PE} {n : Nat} (h : (streamB es).length = n * 25) (k x : Int) : (streamB (es ++ [nE k x])).length = (n + 1) * 25 := by
 rw [streamB_append, streamB_one, List.length_append, h, nE_len]
 omega
theorem conv_at {w : World} {g : Nat} {x : Int} (h : w.cell? ⟨g, 0, none⟩ = some (.int .u8 x)) : (convert 22 9 (.slice (some ⟨g, 0, none⟩) 1 1)).run Tryz.prog w = .ok (.string (strOfNums [x])) w :=
 run_convert_bytes_arg _ 22 5 Tryz.underlying22 Tryz.underlying5 g 0 1 1 [x] rfl (fun i hi => by
  have : i = 0 := by omega
  subst this
  rw [Nat.zero_add, h]
  rfl) 9 Tryz.underlying9
end Go.Proofs.YtlcfoeikamkpmaaGreat

namespace Go.Proofs.YtlcfoeikamkpmaaGreat
open Go.RowKit Go.Wh Go.Maps

section
variable {W : World} {c c' : Nat → Nat} {a b m r m2 r2 : Nat} {w w' : World} {pb qb d : Nat} {t : Option Nat} {cf : PCf} {s : PSt} {X K : Nat → Prop}
def PgPost (W : World) (c : Nat → Nat) (a b m r : Nat) (w : World) (pb d : Nat) (t : Option Nat) (cf : PCf) (E : Int) (p : PPg) (s' : PSt) (e : Ending) (w' : World) : Prop :=
 ∃ v0 v1 v2 v3 c', e = .returned (.tuple #[.agg #[v0, v1, v2, v3, .int .i64 p.lsn], .int .i64 E]) ∧ Stp (fun i => i = a ∨ i = b ∨ i = m) (fun i => i = a ∨ i = b ∨ i = m ∨ i = r) c c' w w' ∧ PX W c' a b m r w' pb d t cf s' ∧ PgIs w' (fun g => c' g = 0 ∧ w.heap.size ≤ g) [v0, v1, v2, v3] p.c
theorem px_page (h : PX W c a b m r w pb d t cf s) (hf : Dif a b m r) (k : Int) {E : Int} {p : PPg} {s' : PSt} (he : s.page cf k = (E, p, s')) :
 Calls Tryz.prog 16 #[.pointer (some ⟨pb, 0, none⟩), .int .i64 k] w (PgPost W c a b m r w pb d t cf E p s') := by
 refine (ppage_any h.dt hf h.po k).mono fun e w' hp => ?_
 rw [he] at hp
 obtain ⟨v0, v1, v2, v3, rfl, c', hs, hd, hp, hpg⟩ := hp
 refine ⟨v0, v1, v2, v3, c', rfl, hs.mono (fun _ e => e) (fun i e => by rcases e with e | e | e <;> simp [e]), ⟨h.lg.step hs (fun e => by rcases e with e | e | e; exact hf.a0 e.symm; exact hf.b0 e.symm; exact hf.m0 e.symm), hd, hp⟩, hpg⟩
theorem PX.other (h : PX W c a b m r w pb d t cf s) {H : Hd PFr} (hq : PoAt c m2 r2 w qb d t cf H) : PX W c a b m2 r2 w qb d t cf { s with H := H } := ⟨h.lg, h.dt.hand H, hq⟩
theorem px_new (h : Lg W c w) (hd : Dt c a b w d t cf s) (hf : Dif a b m r) (k : Int) (n : Nat) (hn : min (max k 1) 64 = (n : Int)) {A B : Int} (hA : (cf.first : Int) = A) (hB : (cf.pages : Int) = B) :
 Calls Tryz.prog 15 #[.pointer (some ⟨d, 0, none⟩), ptrV t, .int .i64 A, .int .i64 B, .int .i64 k] w (fun e w' => ∃ pb c', e = .returned (.pointer (some ⟨pb, 0, none⟩)) ∧ Stp (fun _ => False) (fun i => i = m) c c' w w' ∧ PX W c' a b m r w' pb d t cf { s with H := mkHd PFr.void n }) := by
 refine (pnew_any (m := m) (r := r) h.low d t cf k n hn hA hB).mono ?_
 rintro e w' ⟨pb, c', rfl, hs, hp⟩
 exact ⟨pb, c', rfl, hs, h.step hs fun e => e, (hd.keep hs (fun e => e) (fun e => e) (fun e => hf.am e) (fun e => hf.bm e) hf.a0 hf.b0).hand _, hp⟩
end
end Go.Proofs.YtlcfoeikamkpmaaGreat

namespace Go.Proofs.YtlcfoeikamkpmaaGreat
open Go.RowKit Go.Wh Go.Maps

def Mine (c : Nat → Nat) (w : World) (R : Nat → Prop) (n : Nat) (x : Value) (xs : List Value) : Prop := Sl w R 1 x n xs ∧ ∀ g, R g → c g = 0 ∧ g < w.heap.size
theorem Mine.step {X K : Nat → Prop} {c c' : Nat → Nat} {w w' : World} {R : Nat → Prop} {n : Nat} {x : Value} {xs : List Value} (h : Mine c w R n x xs) (hs : Stp X K c c' w w') (x0 : ¬ X 0) : Mine c' w' R n x xs := by
 refine ⟨h.1.only hs.only fun g hg e => ?_, fun g hg => ?_⟩
 · rw [(h.2 g hg).1] at e
   exact x0 e
 · obtain ⟨a, b⟩ := h.2 g hg
   exact ⟨(hs.old g b).trans a, Nat.lt_of_lt_of_le b hs.only.size⟩
theorem mine_new {c : Nat → Nat} {w w' : World} {v : Value} {l : List Int} {n : Nat} (hl : Low c w) (hv : Vec w' 1 v n (bc l)) (hg : ∀ g, v.ownBlock = some g → w.heap.size ≤ g ∧ g < w'.heap.size) : Mine c w' (fun g => w.heap.size ≤ g ∧ g < w'.heap.size) n v (bc l) :=
 ⟨Vec.sl hv fun g e => ⟨hg g e, (hg g e).2⟩, fun g h => ⟨Classical.byContradiction fun e => by have := hl g e; omega, h.2⟩⟩
end Go.Proofs.YtlcfoeikamkpmaaGreat

namespace Go.Proofs.YtlcfoeikamkpmaaGreat
open Go.Wh

section
variable {cf : PCf} {s : PSt} {C : Int → PPg}
end
end Go.Proofs.YtlcfoeikamkpmaaGreat

namespace Go.Proofs.YtlcfoeikamkpmaaGreat
open Go.RowKit Go.Wh Go.Maps

theorem conv_sl {w : World} {Q : Nat → Prop} {v : Value} {n : Nat} {l : List Int} (h : Sl w Q 1 v n (bc l)) : (convert 22 9 v).run Tryz.prog w = .ok (.string (strOfNums l)) w := by
 have hl : l.length = n := by have := h.1; rw [bc_length] at this; omega
 rcases h.2 with ⟨rfl | ⟨a, c, rfl⟩, rfl⟩ | ⟨g, o, c, rfl, -, hc⟩
 rotate_left
 · rw [List.length_eq_zero_iff.1 hl]
   exact convB0 a c
 rotate_left
 · rw [List.length_eq_zero_iff.1 hl]
   exact Lib.run_convert_nil_bytes w 22 9 5 0 Tryz.underlying22 Tryz.underlying5 Tryz.underlying9
 · exact run_convert_bytes_arg _ 22 5 Tryz.underlying22 Tryz.underlying5 g o n c l hl (fun i hi => by
    have hil : i < l.length := by omega
    rw [hc i (.int .u8 l[i]) (bc_get (List.getElem?_eq_getElem hil))]
    simp [List.getD_eq_getElem?_getD, List.getElem?_eq_getElem hil]) 9 Tryz.underlying9
def blankB (l : List Int) : Bool := decide (l.length = 0) || decide (l = List.replicate 26 0)
def BlPost (w : World) (b : Bool) (e : Ending) (w' : World) : Prop := e = .returned (.bool b) ∧ Still w w'
set_option maxHeartbeats 1000000 in
set_option maxRecDepth 100000 in
theorem blank_any {Q : Nat → Prop} (w : World) (v : Value) (n : Nat) (l : List Int) (h : Sl w Q 1 v n (bc l)) (hb : Byt l) (hn : n ≤ 1000) :
 Calls Tryz.prog 55 #[v] w (BlPost w (blankB l)) := by
 have hln : l.length = n := by have := h.1; rw [bc_length] at this; omega
 obtain ⟨a, c, rfl⟩ := h.form
 by_cases h0 : n = 0
 · subst h0
   have F := Lib.hid (fun w' (hs : Still w w') => show BlPost w (blankB l) (.returned (.bool true)) w' from ⟨by unfold blankB; rw [hln]; rfl, hs⟩)
   have hs : Still w w := Still.refl w
   clear h hb hln
   go_enter Tryz.func55, Tryz.ntmps55
   go_upto_region 1 with fail
   go_quiet (fail)
   go_wp2_with fail
   go_ret
   first | exact F.out _ (Still.refl _) | exact F.out _ (still_drew _) | exact F.out _ (Only.drewN (Still.refl _) _)
 · have d0 : ((n : Int) == 0) = false := beq_false_of_ne (by omega)
   have d1 : decide ((n : Int) = 0) = false := decide_eq_false (by omega)
   have d2 : decide (n = 0) = false := decide_eq_false h0
   have d3 : (n == 0) = false := beq_false_of_ne h0
   have HE := Lib.hid (str_eq hb (show Byt (List.replicate 26 0) from fun z hz => by rw [List.eq_of_mem_replicate hz]; decide))
   obtain ⟨q, hq⟩ : ∃ q, ((strOfNums l).toList == (strOfNums (List.replicate 26 0)).toList) = q := ⟨_, rfl⟩
   have F := Lib.hid (fun w' (hs : Still w w') => show BlPost w (blankB l) (.returned (.bool q)) w' from ⟨by unfold blankB; rw [hln, d2, Bool.false_or, ← HE.out, hq], hs⟩)
   have HC := Lib.hid (fun w' (hs : Still w w') => conv_sl (h.still hs))
   clear h hb hln h0 HE
   go_enter Tryz.func55, Tryz.ntmps55
   go_upto_region 1 with fail
   have hcv := HC.out
   have hmk : ∀ w : World, (Instr.makeSlice 22 (.int .i64 26) (.int .i64 26)).run Tryz.prog w = .ok (.slice (some ⟨w.heap.size, 0, none⟩) 26 26) (w.alloc (.cells (bc (List.replicate 26 0)).toArray 5)) := make26
   have hcz : ∀ w : World, (convert 22 9 (.slice (some ⟨w.heap.size, 0, none⟩) 26 26)).run Tryz.prog (w.alloc (.cells (bc (List.replicate 26 0)).toArray 5)) = .ok (.string (strOfNums (List.replicate 26 0))) (w.alloc (.cells (bc (List.replicate 26 0)).toArray 5)) := fun w => conv_sl (Q := fun _ => True) (l := List.replicate 26 0) (by
    have h := cellsAt_new w (bc (List.replicate 26 0)) 5
    exact ⟨by rw [bc_length]; rfl, .inr ⟨w.heap.size, 0, 26, rfl, fun _ => ⟨trivial, h.lt⟩, fun j u hj => by rw [Nat.zero_add]; exact (h.cell j).trans hj⟩⟩)
   have hcy : ∀ w : World, (convert 22 9 (.slice (some ⟨w.heap.size, 0, none⟩) 26 26)).run Tryz.prog (w.alloc (.cells (bc (List.replicate 26 0)).toArray 5)).drew = .ok (.string (strOfNums (List.replicate 26 0))) (w.alloc (.cells (bc (List.replicate 26 0)).toArray 5)).drew := fun w => conv_sl (Q := fun _ => True) (l := List.replicate 26 0) (by
    have h := cellsAt_new w (bc (List.replicate 26 0)) 5
    exact ⟨by rw [bc_length]; rfl, .inr ⟨w.heap.size, 0, 26, rfl, fun _ => ⟨trivial, h.lt⟩, fun j u hj => by rw [Nat.zero_add]; exact (h.cell j).trans hj⟩⟩)
   have hcv0 := hcv w (Still.refl w)
   have hcv1 := hcv w.drew (still_drew w)
   have hcv2 : ∀ o, (convert 22 9 (.slice a n c)).run Tryz.prog (w.drew.alloc o) = .ok (.string (strOfNums l)) (w.drew.alloc o) := fun o => hcv _ ((still_drew w).alloc o)
   have hcv3 : ∀ o, (convert 22 9 (.slice a n c)).run Tryz.prog (w.alloc o) = .ok (.string (strOfNums l)) (w.alloc o) := fun o => hcv _ ((Still.refl w).alloc o)
   have hcv4 : ∀ o, (convert 22 9 (.slice a n c)).run Tryz.prog (w.alloc o).drew = .ok (.string (strOfNums l)) (w.alloc o).drew := fun o => hcv _ ((Still.refl w).alloc o).drew
   generalize (bc (List.replicate 26 0)).toArray = Z26 at *
   generalize strOfNums (List.replicate 26 0) = ZS at *
   clear hcv HC
   go_region
   go_wp2_with fail
   go_ret
   exact F.out _ ((Still.refl w).alloc _).drew
theorem blank_nil (w : World) (a : Option Addr) (c : Nat) : Calls Tryz.prog 55 #[.slice a 0 c] w (fun e w' => e = .returned (.bool true) ∧ ∃ m, w' = w.drewN m) := by
 go_enter Tryz.func55, Tryz.ntmps55
 go_upto_region 1 with fail
 go_quiet (fail)
 go_wp2_with fail
 go_ret
 exact ⟨rfl, _, rfl⟩
end Go.Proofs.YtlcfoeikamkpmaaGreat

namespace Go.Proofs.YtlcfoeikamkpmaaGreat
open Go.RowKit Go.Wh Go.Maps

theorem stl_trans {a b c : World} (h : Still a b) (k : Still b c) : Still a c := Only.trans h k
set_option maxHeartbeats 4000000 in
set_option maxRecDepth 100000 in
theorem samepage_any {Q R : Nat → Prop} (w : World) (u0 u1 u2 u3 v0 v1 v2 v3 : Value) (ls : List (List Int)) (z : Int) (h1 : PgIs w Q [u0, u1, u2, u3] ls) (h2 : PgIs w R [v0, v1, v2, v3] ls) (hok : ∀ l ∈ ls, l = [] ∨ (l.length = 26 ∧ blankB l = false ∧ Byt l)) :
 Calls Tryz.prog 20 #[.agg #[u0, u1, u2, u3, .int .i64 z], .agg #[v0, v1, v2, v3, .int .i64 z]] w (BlPost w true) := by
 have H := Lib.hid (And.intro h1 (And.intro h2 hok))
 have HC1 := Lib.hid (fun tt => cellsAt_new w [u0, u1, u2, u3, .int .i64 z] tt)
 have HC2 := Lib.hid (fun w' tt => cellsAt_new w' [v0, v1, v2, v3, .int .i64 z] tt)
 clear h1 h2 hok
 go_enter Tryz.func20, Tryz.ntmps20
 go_upto_region 1 with fail
 have hs1 : Still w (w.alloc (.cells #[u0, u1, u2, u3, .int .i64 z] 36)) := (Still.refl w).alloc _
 have hc1 := HC1.out 36
 change cellsAt (w.alloc (.cells #[u0, u1, u2, u3, .int .i64 z] 36)) w.heap.size _ at hc1
 have hz1 : (w.alloc (.cells #[u0, u1, u2, u3, .int .i64 z] 36)).heap.size = w.heap.size + 1 := by simp
 generalize (w.alloc (.cells #[u0, u1, u2, u3, .int .i64 z] 36)) = w1 at *
 have hs2 : Still w1 (w1.alloc (.cells #[v0, v1, v2, v3, .int .i64 z] 36)) := (Still.refl w1).alloc _
 have hc2 := HC2.out w1 36
 change cellsAt (w1.alloc (.cells #[v0, v1, v2, v3, .int .i64 z] 36)) w1.heap.size _ at hc2
 rw [hz1] at hc2
 generalize (w1.alloc (.cells #[v0, v1, v2, v3, .int .i64 z] 36)) = w2 at *
 obtain ⟨b2, hb2⟩ : ∃ b, w.heap.size = b := ⟨_, rfl⟩
 obtain ⟨b3, hb3⟩ : ∃ b, w.heap.size + 1 = b := ⟨_, rfl⟩
 rw [hb3] at hc2
 rw [hb2] at hc1
 rw [hb3, hb2]
 have H2 := Lib.hid (And.intro (hc1.only hs2 fun e => e) (And.intro hc2 (hs1.trans hs2)))
 clear hs1 hs2 hc1 hc2 hz1 hb2 hb3 HC1 HC2
 go_wp2_with fail
 go_loopw [5] (fun s wr => ∃ i : Nat, s = .int .i64 i ∧ i ≤ 4 ∧ Still w2 wr) (fun s _ => 4 - (intOf s).toNat)
 case atStart => exact ⟨0, rfl, Nat.zero_le _, Still.refl _⟩
 obtain ⟨i, rfl, hi4, hst⟩ := hrel
 have HST := Lib.hid hst
 have HR := Lib.hid (And.intro (H2.out.1.only hst fun e => e) (H2.out.2.1.only hst fun e => e))
 clear hst
 by_cases hi : i < 4
 rotate_left
 · have d1 : decide ((i : Int) < 4) = false := decide_eq_false (by omega)
   have d2 : decide (i < 4) = false := decide_eq_false hi
   have c1 : wr.cell? ⟨b2, 4, none⟩ = some (.int .i64 z) := HR.out.1.cell 4
   have c2 : wr.cell? ⟨b3, 4, none⟩ = some (.int .i64 z) := HR.out.2.cell 4
   have F := Lib.hid (show BlPost w true (.returned (.bool true)) wr from ⟨rfl, H2.out.2.2.trans HST.out⟩)
   clear hi hi4
   go_wp2_with fail
   go_ret
   exact F.out
 have d1 : decide ((i : Int) < 4) = true := decide_eq_true (by omega)
 have d2 : decide (i < 4) = true := decide_eq_true hi
 have i0 : (0 : Int) ≤ (i : Int) := by omega
 have i1 : (i : Int) < 4 := by omega
 have ui : IntKind.i64.wrap ((i : Int) + 1) = (i : Int) + 1 := IntWalk.i64_in _ (by omega)
 obtain ⟨u, hu⟩ : ∃ u, [u0, u1, u2, u3][i]? = some u := ⟨_, List.getElem?_eq_getElem (by simpa using hi)⟩
 obtain ⟨v, hv⟩ : ∃ u, [v0, v1, v2, v3][i]? = some u := ⟨_, List.getElem?_eq_getElem (by simpa using hi)⟩
 obtain ⟨l, hl⟩ : ∃ l, ls[i]? = some l := ⟨_, List.getElem?_eq_getElem (by have := H.out.1.m; omega)⟩
 have hlk := H.out.2.2 l (List.mem_of_getElem? hl)
 have hsu := H.out.1.at_ i u l hu hl
 have hsv := H.out.2.1.at_ i v l hv hl
 have hp : ∀ {x : Value} {p q r s t : Value}, [p, q, r, s][i]? = some x → [p, q, r, s, t][i]? = some x := fun {x p q r s t} e => by
  rcases (show i = 0 ∨ i = 1 ∨ i = 2 ∨ i = 3 from by omega) with rfl | rfl | rfl | rfl <;> exact e
 have SS := Lib.hid (fun w' (hs : Still wr w') => show w'.cell? ⟨b2, i, none⟩ = some u ∧ w'.cell? ⟨b3, i, none⟩ = some v from
  ⟨Still.cell hs ((HR.out.1.cell i).trans (hp hu)), Still.cell hs ((HR.out.2.cell i).trans (hp hv))⟩)
 have cu : wr.cell? ⟨b2, i, none⟩ = some u := (SS.out wr (Still.refl _)).1
 have cv : wr.cell? ⟨b3, i, none⟩ = some v := (SS.out wr (Still.refl _)).2
 have HN := Lib.hid (fun w' (hs : Still wr w') => show (∃ k : Nat, Value.int .i64 ((i : Int) + 1) = .int .i64 k ∧ k ≤ 4 ∧ Still w2 w') from ⟨i + 1, rfl, by omega, HST.out.trans hs⟩)
 rcases hlk with rfl | hlk
 · obtain ⟨ua, uc, rfl⟩ := hsu.form
   obtain ⟨va, vc, rfl⟩ := hsv.form
   have cu0 : wr.cell? ⟨b2, i, none⟩ = some (.slice ua 0 uc) := cu
   have cv0 : wr.cell? ⟨b3, i, none⟩ = some (.slice va 0 vc) := cv
   clear hu hv hl hsu hsv hp hi hi4 HR SS cu cv
   go_upto_region 4 with fail
   go_quiet (first
    | (go_at_call 55; (with_reducible refine Calls.quiet_of (blank_nil _ ua uc)))
    | (go_at_call 55; (with_reducible refine Calls.quiet_of (blank_nil _ va vc))))
   go_wp2_with fail
   go_roundw
   case rel => exact HN.out _ (Only.drewN (Still.refl wr) _)
   case measure => simp [intOf]; omega
 have HU := Lib.hid (fun w' (hs : Still wr w') => blank_any w' u l.length l (((hsu.still H2.out.2.2).still HST.out).still hs) hlk.2.2 (by omega))
 have HV := Lib.hid (fun w' (hs : Still wr w') => blank_any w' v l.length l (((hsv.still H2.out.2.2).still HST.out).still hs) hlk.2.2 (by omega))
 have HQU := Lib.hid (fun w' (hs : Still wr w') => conv_sl (((hsu.still H2.out.2.2).still HST.out).still hs))
 have HQV := Lib.hid (fun w' (hs : Still wr w') => conv_sl (((hsv.still H2.out.2.2).still HST.out).still hs))
 rw [hlk.2.1] at HU HV
 obtain ⟨ua, uc, rfl⟩ := hsu.form
 obtain ⟨va, vc, rfl⟩ := hsv.form
 obtain ⟨n, hn⟩ : ∃ n, l.length = n := ⟨_, rfl⟩
 rw [hn] at HU HV HQU HQV SS cu cv
 generalize strOfNums l = ZS at *
 have SS2 := Lib.hid (fun w' (hs : Still wr w') => show (w'.cell? ⟨b2, i, none⟩ = some (.slice ua n uc) ∧ w'.cell? ⟨b3, i, none⟩ = some (.slice va n vc)) ∧ (convert 22 9 (.slice ua n uc)).run Tryz.prog w' = .ok (.string ZS) w' ∧ (convert 22 9 (.slice va n vc)).run Tryz.prog w' = .ok (.string ZS) w' from ⟨SS.out w' hs, HQU.out w' hs, HQV.out w' hs⟩)
 clear hu hv hl hlk hsu hsv hp hi hi4 HR hn
 go_upto_region 4 with fail
 go_region_held3 (fun w' => (w'.cell? ⟨b2, i, none⟩ = some (.slice ua n uc) ∧ w'.cell? ⟨b3, i, none⟩ = some (.slice va n vc)) ∧ (convert 22 9 (.slice ua n uc)).run Tryz.prog w' = .ok (.string ZS) w' ∧ (convert 22 9 (.slice va n vc)).run Tryz.prog w' = .ok (.string ZS) w') (first | exact SS2.out _ (still_drew _) | exact SS2.out _ (by assumption)) (first
  | (go_at_call 55; (with_reducible refine (HU.out _ (by first | exact still_drew _ | assumption)).mono ?_); rintro e w5 ⟨rfl, hs5⟩; have t5 : Still wr w5 := stl_trans (by first | exact still_drew _ | assumption) hs5; clear hs5)
  | (go_at_call 55; (with_reducible refine (HV.out _ (by first | exact still_drew _ | assumption)).mono ?_); rintro e w6 ⟨rfl, hs6⟩; have t6 : Still wr w6 := stl_trans (by first | exact still_drew _ | assumption) hs6; clear hs6))
 go_wp2_with fail
 go_roundw
 case rel => exact HN.out _ t5
 case measure => simp [intOf]; omega
end Go.Proofs.YtlcfoeikamkpmaaGreat

namespace Go.Proofs.YtlcfoeikamkpmaaGreat
open Go.Wh

theorem fit_blank {p : PPg} (h : p.fit) : ∀ l ∈ p.c, l = [] ∨ (l.length = 26 ∧ blankB l = false ∧ Byt l) := by
 intro l hl
 rcases h.cell l hl with e | ⟨-, e⟩
 · exact .inl e
 · rcases h.ok.each l hl with e2 | e2
   · exact .inl e2
   · refine .inr ⟨e2, ?_, h.ok.byt l hl⟩
     unfold blankB
     rw [e2]
     simp only [Bool.or_eq_false_iff, decide_eq_false_iff_not]
     refine ⟨by omega, fun e3 => ?_⟩
     rw [e3, nought_replicate] at e
     cases e
structure ReaS (cf : PCf) (s : PSt) (C : Int → PPg) (n i : Nat) : Prop where
 good : Good cf s C
 l12 : s.H.l.length ≤ 12
 es : s.es.length = n
 str : (streamB s.es).length = n * 25
 lsn : ∀ k, (C k).lsn ≤ i
section
variable {cf : PCf} {s : PSt} {C : Int → PPg} {n i : Nat}
end
end Go.Proofs.YtlcfoeikamkpmaaGreat
