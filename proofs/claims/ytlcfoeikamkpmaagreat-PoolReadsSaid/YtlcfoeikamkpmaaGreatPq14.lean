/- A trail: all entries stable; opened. Conditions: all lies in memory, apart. Pages, their two tiles, a cache of frames with a hand that goes round: plain. No program. No conditions. A page's tiles say the page: plain. No program. No conditions. Bytes: are they noughts alone; a cell's bytes in full. Conditions: they lie in memory. How many noughts bytes have. Conditions: they lie in memory, at least one. A text, its length ahead, noughts behind. Conditions: it is shorter than its place. The document's May and Row of a row of short texts. Conditions: a key of 1 to 7 bytes, a second of at most 5, a value of at most 7. Rows of bytes, copied, filled up. Conditions: they lie in memory. -/
import Derived.Test.YtlcfoeikamkpmaaGreatPq13
import Derived.Shelf.Bytes.SlCountOne
import Derived.Deep.AppendSrc
import Derived.Lib.AppendZerosOnto
namespace Go.Proofs.YtlcfoeikamkpmaaGreat
open Go.RowKit Go.Wh Go.Maps

structure DkX (A : Nat → Prop) (d : Nat) (T : List (List Int)) (w : World) : Prop where
 dk : ∃ tv mb vs, DkAt w d T tv mb vs ∧ A d ∧ A mb ∧ (∀ g, tv.ownBlock = some g → A g) ∧ ∀ v ∈ vs, ∀ g, v.ownBlock = some g → A g
 lt : ∀ g, A g → g < w.heap.size
 byt : ∀ l ∈ T, Byt l
 len : T.length ≤ 2000
theorem DkX.only {A S : Nat → Prop} {d : Nat} {T : List (List Int)} {w w' : World} (h : DkX A d T w) (ho : Only S w w') (hs : ∀ g, A g → ¬ S g) : DkX A d T w' := by
 obtain ⟨tv, mb, vs, h1, h2, h3, h4, h5⟩ := h.dk
 exact ⟨⟨tv, mb, vs, h1.only ho (hs d h2) (hs mb h3) (fun g hg => hs g (h4 g hg)) (fun v hv g hg => hs g (h5 v hv g hg)), h2, h3, h4, h5⟩, fun g hg => Nat.lt_of_lt_of_le (h.lt g hg) ho.size, h.byt, h.len⟩
theorem DkX.still {A : Nat → Prop} {d : Nat} {T : List (List Int)} {w w' : World} (h : DkX A d T w) (hs : Still w w') : DkX A d T w' := h.only hs fun _ _ e => e
theorem DkX.newer {A : Nat → Prop} {d : Nat} {T : List (List Int)} {w w' : World} (h : DkX A d T w) (hs : Still w w') : DkX (Newer A w w') d T w' := by
 obtain ⟨tv, mb, vs, h1, h2, h3, h4, h5⟩ := (h.still hs).dk
 exact ⟨⟨tv, mb, vs, h1, .inl h2, .inl h3, fun g hg => .inl (h4 g hg), fun v hv g hg => .inl (h5 v hv g hg)⟩, fun g hg => hg.elim ((h.still hs).lt g) fun e => e.2, h.byt, h.len⟩
theorem DkX.turn {A : Nat → Prop} {d mb : Nat} {T T' : List (List Int)} {tv : Value} {vs : List Value} {w w' : World} {e : Ending} (h : DkX A d T w) (h3 : A mb) (h4 : ∀ g, tv.ownBlock = some g → A g) (h5 : ∀ v ∈ vs, ∀ g, v.ownBlock = some g → A g) (h2 : A d) (hw : WrPost w d T' tv mb vs e w') (hb : ∀ l ∈ T', Byt l) (hl : T'.length = T.length) :
 e = .returned (.int .i64 0) ∧ DkX (Newer A w w') d T' w' ∧ Only A w w' := by
 obtain ⟨he, vs', k1, k2, k3⟩ := hw
 have hz := k2.size
 refine ⟨he, ⟨⟨tv, mb, vs', k1, .inl h2, .inl h3, fun g hg => .inl (h4 g hg), fun v hv g hg => ?_⟩, fun g hg => hg.elim (fun e => by have := h.lt g e; omega) fun e => e.2, hb, by rw [hl]; exact h.len⟩, k2.mono fun b e => e.elim (fun e => e ▸ h3) (h4 b)⟩
 rcases k3 v hv with hv' | hv'
 · exact .inl (h5 v hv' g hg)
 · exact .inr ⟨hv' g hg, (k1.ia v hv g hg).2.2.2⟩

theorem clean_x {A B : Nat → Prop} {w : World} {t d at_ n st : Nat} {es : List PE} {T : List (List Int)} (h : TlX B t d at_ n es st w) (hd : DkX A d T w) (hab : ∀ g, A g → ¬ B g) (hn : at_ + n ≤ T.length) :
 Calls Tryz.prog 37 #[.pointer (some ⟨t, 0, none⟩)] w (fun e w' => e = .returned (.int .i64 0) ∧ DkX (Newer A w w') d (layB T at_ (streamB es) n) w' ∧ Only A w w') := by
 obtain ⟨sv, h1, h2, h3⟩ := h.tl
 obtain ⟨tv, mb, vs, k1, k2, k3, k4, k5⟩ := hd.dk
 refine (clean_any w t d at_ n (streamB es) sv es.length st T tv mb vs h1 k1 ⟨fun e => hab mb k3 (e ▸ h2), fun e => hab t (k4 t e) h2, fun g hg => ⟨fun e => hab mb k3 (e ▸ h3 g hg), fun e => hab g (k4 g e) (h3 g hg)⟩⟩ hd.len hn hd.byt (by have := h.len; have := h.n_le; omega)).mono fun e w' hw => ?_
 exact hd.turn k3 k4 k5 k2 hw (layB_byt hd.byt (streamB_byt h.byt)) layB_length

def FoPost (A B : Nat → Prop) (w : World) (t d at_ n : Nat) (es : List PE) (T : List (List Int)) (en : Ending) (w' : World) : Prop :=
 en = .returned (.int .i64 0) ∧ TlX B t d at_ n es es.length w' ∧ DkX (Newer A w w') d T w' ∧ Only (fun b => A b ∨ B b) w w'
set_option maxHeartbeats 2000000 in
set_option maxRecDepth 100000 in
theorem force_any {A B : Nat → Prop} {w : World} {t d at_ n st : Nat} {es : List PE} {T : List (List Int)} (h : TlX B t d at_ n es st w) (hd : DkX A d T w) (hab : ∀ g, A g → ¬ B g) (hn : at_ + n ≤ T.length) :
 Calls Tryz.prog 86 #[.pointer (some ⟨t, 0, none⟩)] w (FoPost A B w t d at_ n es (if st = es.length then T else layB T at_ (streamB es) n)) := by
 obtain ⟨sv, h1, h2, h3⟩ := h.tl
 have c4 : w.cell? ⟨t, 4, none⟩ = some (.int .i64 es.length) := h1.cells.cell 4
 have c5 : w.cell? ⟨t, 5, none⟩ = some (.int .i64 st) := h1.cells.cell 5
 have H := Lib.hid (And.intro h (And.intro hd (And.intro hab (And.intro hn (And.intro h2 h3)))))
 by_cases hs : st = es.length
 · have hq : ((st : Int) == (es.length : Int)) = true := by rw [hs]; simp
   rw [if_pos hs]
   have F := Lib.hid (fun w' (k : Still w w') => show FoPost A B w t d at_ n es T (.returned (.int .i64 0)) w' from ⟨rfl, by rw [← hs]; exact h.still k, hd.newer k, k.mono fun _ e => e.elim⟩)
   clear h hd hab hn h1 h2 h3 hs
   generalize es.length = L at *
   go_enter Tryz.func86, Tryz.ntmps86
   go_wp2_with fail
   go_quiet (fail)
   go_wp2_with fail
   go_ret
   exact F.out _ ((Still.refl w).drewN _)
 · have hq : ((st : Int) == (es.length : Int)) = false := by simp; omega
   rw [if_neg hs]
   have HC := Lib.hid (fun w' (k : Still w w') => clean_x (h.still k) (hd.still k) hab hn)
   clear h hd hab hn h1 h2 h3 hs
   go_enter Tryz.func86, Tryz.ntmps86
   go_wp2_with fail
   go_quiet (fail)
   have hs2 : Still w (w.drewN nq) := (Still.refl w).drewN _
   go_wp2_with fail
   refine (HC.out _ hs2).mono ?_
   rintro en w3 ⟨rfl, k1, k2⟩
   have ht3 := (H.out.1.still hs2).only k2 fun g hg e => H.out.2.2.1 g e hg
   obtain ⟨sv3, e1, e2, e3⟩ := ht3.tl
   have g4 : w3.cell? ⟨t, 4, none⟩ = some (.int .i64 es.length) := e1.cells.cell 4
   have g5 : w3.cell? ⟨t, 5, none⟩ = some (.int .i64 st) := e1.cells.cell 5
   have f5 := e1.cells.free 5
   have F := Lib.hid (show FoPost A B w t d at_ n es (layB T at_ (streamB es) n) (.returned (.int .i64 0)) (w3.setCell ⟨t, 5, none⟩ (.int .i64 es.length)) from by
    have hs5 := setCell_only w3 ⟨t, 5, none⟩ (.int .i64 es.length)
    have hzz : (w3.setCell ⟨t, 5, none⟩ (.int .i64 es.length)).heap.size = w3.heap.size := by simp [World.setCell]
    have hzd : (w.drewN nq).heap.size = w.heap.size := rfl
    have hz3 := k2.size
    have hlt := e1.cells.lt
    refine ⟨rfl, ⟨⟨sv3, ⟨e1.cells.setCell 5 _, e1.s.only hs5 fun g hg e => (e1.st_ g hg).1 e, e1.byt, fun g hg => ⟨(e1.st_ g hg).1, by rw [hzz]; exact (e1.st_ g hg).2⟩⟩, e2, e3⟩, fun g hg => by rw [hzz]; exact ht3.lt g hg, ht3.len, ht3.n_le, ht3.may, ht3.byt, Nat.le_refl _⟩, ?_, ?_⟩
    · have := k1.only hs5 fun g hg e => by
       have e' : g = t := e
       rcases hg with hg | hg
       · exact H.out.2.2.1 g hg (e' ▸ H.out.2.2.2.2.1)
       · have := H.out.1.lt t H.out.2.2.2.2.1
         have := hg.1
         omega
      have hN : ∀ g, Newer A (w.drewN nq) w3 g ↔ Newer A w (w3.setCell ⟨t, 5, none⟩ (.int .i64 es.length)) g := fun g => by
       unfold Newer
       rw [hzz, hzd]
      have heq : Newer A (w.drewN nq) w3 = Newer A w (w3.setCell ⟨t, 5, none⟩ (.int .i64 es.length)) := funext fun g => propext (hN g)
      rwa [heq] at this
    · exact ((hs2.mono fun _ e => e.elim).trans (k2.mono fun _ e => .inl e)).setCell (.inl (.inr H.out.2.2.2.2.1)) _)
   clear k1 k2 ht3 e1 e2 e3 hs2 HC
   go_wp2_with fail
   go_ret
   exact F.out
end Go.Proofs.YtlcfoeikamkpmaaGreat

namespace Go.Proofs.YtlcfoeikamkpmaaGreat

structure PPg where
 c : List (List Int)
 lsn : Int
deriving DecidableEq, Inhabited
def PPg.void : PPg := ⟨[[], [], [], []], 0⟩
structure PPg.ok (p : PPg) : Prop where
 four : p.c.length = 4
 each : ∀ l ∈ p.c, l = [] ∨ l.length = 26
 byt : ∀ l ∈ p.c, Byt l
def fullB (l : List Int) : List Int := if l = [] then List.replicate 26 0 else l
def PPg.body (p : PPg) : List Int := p.c.flatMap fullB
def be4 (z : Int) : List Int := [z / 16777216 % 256, z / 65536 % 256, z / 256 % 256, z % 256]
def oneB (z : Int) (b : List Int) : List Int := be4 z ++ (b ++ List.replicate (60 - b.length) 0)
def lsnMay (z : Int) : Bool := decide (0 ≤ z) && decide (z ≤ 2147483647)
def leafA (p : PPg) : List Int := oneB p.lsn (p.body.take 60)
def leafB (p : PPg) : List Int := oneB p.lsn (p.body.drop 60)
def numT (t : List Int) : Int := (t.take 4).foldl (fun n x => n * 256 + x) 0
def nought (b : List Int) : Bool := b.all (· == 0)
def partT (c : List Int) (i most : Nat) : List Int := (c.drop (i + 1)).take (min (c.getD i 0).toNat most)
def padT (b : List Int) (most : Nat) : List Int := (b.length : Int) :: (b ++ List.replicate (most - b.length) 0)
def rowT (c : List Int) : Bool := !(partT c 1 8).isEmpty && (c == 1 :: (padT (partT c 1 8) 8 ++ padT (partT c 10 6) 6 ++ padT (partT c 17 8) 8))
def stubT (c : List Int) : Bool := decide (c.getD 1 0 < 32) && decide (c.getD 2 0 < 4) && (c == 2 :: c.getD 1 0 :: c.getD 2 0 :: List.replicate 23 0)
def cellT (c : List Int) : Bool := nought c || rowT c || stubT c
def cellAt (body : List Int) (i : Nat) : List Int := (body.drop (i * 26)).take 26
def cellsT (body : List Int) : List (List Int) := (List.range 4).map fun i => if nought (cellAt body i) then [] else cellAt body i
def takeT (a b : List Int) : Int × PPg :=
 if numT a ≠ numT b then (3, PPg.void) else if 2147483647 < numT a then (4, PPg.void)
 else if nought ((a.drop 4 ++ b.drop 4).drop 104) = false then (4, PPg.void)
 else if (List.range 4).all (fun i => cellT (cellAt (a.drop 4 ++ b.drop 4) i)) = false then (4, PPg.void)
 else (0, ⟨cellsT (a.drop 4 ++ b.drop 4), numT a⟩)
structure PFr where
 p : PPg
 dirty : Bool
 rec_ : Int
deriving DecidableEq, Inhabited
def PFr.void : PFr := ⟨PPg.void, false, 0⟩
theorem numT_be4 {z : Int} (h0 : 0 ≤ z) (h1 : z ≤ 2147483647) (b : List Int) : numT (oneB z b) = z := by
 unfold numT oneB be4
 simp only [List.cons_append, List.nil_append, List.take_succ_cons, List.take_zero, List.foldl_cons, List.foldl_nil]
 omega
theorem fullB_length {l : List Int} (h : l = [] ∨ l.length = 26) : (fullB l).length = 26 := by
 unfold fullB
 rcases h with rfl | h
 · simp
 · rw [if_neg (fun e => by rw [e] at h; cases h), h]
theorem PPg.body_length {p : PPg} (h : p.ok) : p.body.length = 104 := by
 obtain ⟨c, lsn⟩ := p
 obtain ⟨h4, he, -⟩ := h
 match c, h4 with
 | [a, b, x, y], _ =>
  have ha := fullB_length (he a (by simp))
  have hb := fullB_length (he b (by simp))
  have hx := fullB_length (he x (by simp))
  have hy := fullB_length (he y (by simp))
  simp [PPg.body, ha, hb, hx, hy]
theorem leafA_length {p : PPg} (h : p.ok) : (leafA p).length = 64 := by
 have := PPg.body_length h
 simp [leafA, oneB, be4, this]
theorem leafB_length {p : PPg} (h : p.ok) : (leafB p).length = 64 := by
 have := PPg.body_length h
 simp [leafB, oneB, be4, this]
end Go.Proofs.YtlcfoeikamkpmaaGreat

namespace Go.Proofs.YtlcfoeikamkpmaaGreat

theorem oneB_drop (z : Int) (b : List Int) : (oneB z b).drop 4 = b ++ List.replicate (60 - b.length) 0 := rfl
theorem leaf_body {p : PPg} (h : p.ok) : (leafA p).drop 4 ++ (leafB p).drop 4 = p.body ++ List.replicate 16 0 := by
 have hl := PPg.body_length h
 unfold leafA leafB
 rw [oneB_drop, oneB_drop, List.length_take, List.length_drop, hl]
 rw [show 60 - min 60 104 = 0 from rfl, show 60 - (104 - 60) = 16 from rfl, List.replicate_zero, List.append_nil, ← List.append_assoc, List.take_append_drop]
theorem nought_replicate (n : Nat) : nought (List.replicate n 0) = true := by
 unfold nought
 rw [List.all_eq_true]
 intro x hx
 rw [List.eq_of_mem_replicate hx]
 rfl
theorem cellAt_four {a b c d e : List Int} (ha : a.length = 26) (hb : b.length = 26) (hc : c.length = 26) (hd : d.length = 26) :
 cellAt (a ++ (b ++ (c ++ (d ++ e)))) 0 = a ∧ cellAt (a ++ (b ++ (c ++ (d ++ e)))) 1 = b ∧ cellAt (a ++ (b ++ (c ++ (d ++ e)))) 2 = c ∧ cellAt (a ++ (b ++ (c ++ (d ++ e)))) 3 = d := by
 refine ⟨?_, ?_, ?_, ?_⟩
 · unfold cellAt
   rw [List.drop_zero, List.take_append_of_le_length (by omega), List.take_of_length_le (by omega)]
 · unfold cellAt
   rw [show 1 * 26 = a.length by omega, List.drop_left, List.take_append_of_le_length (by omega), List.take_of_length_le (by omega)]
 · unfold cellAt
   rw [← List.append_assoc, show 2 * 26 = (a ++ b).length by simp; omega, List.drop_left, List.take_append_of_le_length (by omega), List.take_of_length_le (by omega)]
 · unfold cellAt
   rw [← List.append_assoc, ← List.append_assoc, show 3 * 26 = (a ++ b ++ c).length by simp; omega, List.drop_left, List.take_append_of_le_length (by omega), List.take_of_length_le (by omega)]
theorem cellT_none : cellT (fullB []) = true := by decide
theorem cellT_full {l : List Int} (h : l = [] ∨ cellT l = true) : cellT (fullB l) = true := by
 rcases h with rfl | h
 · exact cellT_none
 · unfold fullB
   split
   · exact cellT_none
   · exact h
def PPg.norm (p : PPg) : PPg := ⟨p.c.map fun l => if nought (fullB l) then [] else fullB l, p.lsn⟩
theorem takeT_leaf {p : PPg} (h : p.ok) (hl : lsnMay p.lsn = true) (hc : ∀ l ∈ p.c, l = [] ∨ cellT l = true) : takeT (leafA p) (leafB p) = (0, p.norm) := by
 unfold lsnMay at hl
 simp only [Bool.and_eq_true, decide_eq_true_eq] at hl
 have hA : numT (leafA p) = p.lsn := numT_be4 hl.1 hl.2 _
 have hB : numT (leafB p) = p.lsn := numT_be4 hl.1 hl.2 _
 have hbl := PPg.body_length h
 unfold takeT
 rw [hA, hB, if_neg (fun e => e rfl), if_neg (by omega), leaf_body h]
 have hn : nought ((p.body ++ List.replicate 16 0).drop 104) = true := by
  rw [← hbl, List.drop_left]
  exact nought_replicate 16
 rw [if_neg (by rw [hn]; decide)]
 obtain ⟨c, lsn⟩ := p
 obtain ⟨h4, he, -⟩ := h
 match c, h4, he, hc with
 | [a, b, x, y], _, he, hc =>
  have ka := fullB_length (he a (by simp))
  have kb := fullB_length (he b (by simp))
  have kx := fullB_length (he x (by simp))
  have ky := fullB_length (he y (by simp))
  have e : PPg.body ⟨[a, b, x, y], lsn⟩ ++ List.replicate 16 0 = fullB a ++ (fullB b ++ (fullB x ++ (fullB y ++ List.replicate 16 0))) := by simp [PPg.body]
  rw [e]
  generalize List.replicate 16 (0 : Int) = pad
  obtain ⟨c0, c1, c2, c3⟩ := cellAt_four (e := pad) ka kb kx ky
  have hr : List.range 4 = [0, 1, 2, 3] := rfl
  rw [if_neg (by rw [hr]; simp [c0, c1, c2, c3, cellT_full (hc a (by simp)), cellT_full (hc b (by simp)), cellT_full (hc x (by simp)), cellT_full (hc y (by simp))])]
  unfold cellsT PPg.norm
  rw [hr]
  simp [c0, c1, c2, c3]
theorem takeT_torn {p q : PPg} (h1 : lsnMay p.lsn = true) (h2 : lsnMay q.lsn = true) (hne : p.lsn ≠ q.lsn) : takeT (leafA p) (leafB q) = (3, PPg.void) := by
 unfold lsnMay at h1 h2
 simp only [Bool.and_eq_true, decide_eq_true_eq] at h1 h2
 have hA : numT (leafA p) = p.lsn := numT_be4 h1.1 h1.2 _
 have hB : numT (leafB q) = q.lsn := numT_be4 h2.1 h2.2 _
 unfold takeT
 rw [hA, hB, if_pos hne]
theorem takeT_zero : takeT (List.replicate 64 0) (List.replicate 64 0) = (0, PPg.void) := by decide
def rowC (x : Int) (s v : List Int) : List Int := 1 :: (padT [x] 8 ++ padT s 6 ++ padT v 8)
theorem rowC_cell : ∀ x ∈ List.range 26, cellT (rowC (97 + (x : Int)) [] []) = true := by decide
theorem rowC_cell2 : ∀ x ∈ List.range 20, cellT (rowC (97 + (x : Int)) [115] [118]) = true := by decide
theorem stubC_cell : ∀ x ∈ List.range 32, ∀ y ∈ List.range 4, cellT (2 :: (x : Int) :: (y : Int) :: List.replicate 23 0) = true := by decide
end Go.Proofs.YtlcfoeikamkpmaaGreat

namespace Go.Proofs.YtlcfoeikamkpmaaGreat
open Go.RowKit Go.Wh Go.Maps

theorem nz_any (w : World) (x : Int) : Calls Tryz.prog 142 #[.int .u8 x] w (SamePost w (.bool (!decide (x = 0)))) := by
 go_enter Tryz.func142, Tryz.ntmps142
 go_wp2_with fail
 go_ret
 exact ⟨rfl, rfl⟩
theorem nought_snoc {l : List Int} {i : Nat} {x : Int} (h : nought (l.take i) = true) (hx : l[i]? = some x) (h0 : x = 0) : nought (l.take (i + 1)) = true := by
 rw [List.take_add_one, hx]
 unfold nought at *
 rw [List.all_append, h]
 simp [h0]
theorem nought_not {l : List Int} {i : Nat} {x : Int} (hx : l[i]? = some x) (h0 : ¬ x = 0) : nought l = false := by
 unfold nought
 rw [List.all_eq_false]
 exact ⟨x, List.mem_of_getElem? hx, by simpa using h0⟩
def IfPost (w : World) (l : List Int) (e : Ending) (w' : World) : Prop := ∃ r : Int, e = .returned (.int .i64 r) ∧ decide (0 ≤ r) = !nought l ∧ w' = w
set_option maxHeartbeats 1000000 in
set_option maxRecDepth 100000 in
theorem indexf_any {Q : Nat → Prop} (w : World) (v : Value) (n : Nat) (l : List Int) (h : Sl w Q 1 v n (bc l)) (hn : n ≤ 100000) :
 Calls Tryz.prog 167 #[v, .func (.func 142) #[] #[]] w (IfPost w l) := by
 have hln : l.length = n := by have := h.1; rw [bc_length] at this; omega
 obtain ⟨a, c, rfl⟩ := h.form
 have HH := Lib.hid (And.intro h (And.intro hn hln))
 clear h hn hln
 go_enter Tryz.func167, Tryz.ntmps167
 go_wp2_with fail
 go_loopw [8] (fun s wr => ∃ i : Nat, s = .int .i64 i ∧ i ≤ n ∧ w = wr ∧ nought (l.take i) = true) (fun s _ => n - (intOf s).toNat)
 case atStart => exact ⟨0, rfl, Nat.zero_le _, rfl, by rw [List.take_zero]; rfl⟩
 obtain ⟨i, rfl, hin, rfl, hno⟩ := hrel
 have HNO := Lib.hid hno
 clear hno
 by_cases hi : i < n
 rotate_left
 · have d1 : decide ((i : Int) < (n : Int)) = false := decide_eq_false (by omega)
   have d2 : decide (i < n) = false := decide_eq_false hi
   have F := Lib.hid (show IfPost w l (.returned (.int .i64 (-1))) w from by
    have := HNO.out
    rw [List.take_of_length_le (by have := HH.out.2.2; omega)] at this
    exact ⟨-1, rfl, by rw [this]; rfl, rfl⟩)
   clear hi hin
   go_wp2_with fail
   go_ret
   exact F.out
 have d1 : decide ((i : Int) < (n : Int)) = true := decide_eq_true (by omega)
 have d2 : decide (i < n) = true := decide_eq_true hi
 have i0 : (0 : Int) ≤ (i : Int) := by omega
 have i1 : (i : Int) < (n : Int) := by omega
 have u9 : IntKind.i64.wrap ((i : Int) + 1) = (i : Int) + 1 := IntWalk.i64_in _ (by have := HH.out; omega)
 obtain ⟨x, hx⟩ : ∃ x, l[i]? = some x := ⟨_, List.getElem?_eq_getElem (by have := HH.out; omega)⟩
 obtain ⟨g, o, c', e, -, -, hc⟩ := HH.out.1.pos (by omega)
 cases e
 have p0 : w.cell? ⟨g, o + i, none⟩ = some (.int .u8 x) := hc i _ (by unfold bc; rw [List.getElem?_map, hx]; rfl)
 have HX := Lib.hid hx
 have HI := Lib.hid hi
 have HZ := Lib.hid (nz_any w x)
 clear hx hi hin hc
 by_cases h0 : x = 0
 · have d3 : (!decide (x = 0)) = false := by rw [decide_eq_true h0]; rfl
   rw [d3] at HZ
   have HN2 := Lib.hid (nought_snoc HNO.out HX.out h0)
   clear h0 d3
   go_wp2_with fail
   refine HZ.out.mono ?_
   rintro e w2 ⟨rfl, rfl⟩
   go_wp2_with fail
   go_roundw
   case rel => exact ⟨i + 1, by go_num, by have := HI.out; omega, (by first | trivial | rfl), HN2.out⟩
   case measure => first | (simp [intOf]; done) | (simp [intOf]; have := HI.out; omega)
 · have d3 : (!decide (x = 0)) = true := by rw [decide_eq_false h0]; rfl
   rw [d3] at HZ
   have F := Lib.hid (show IfPost w l (.returned (.int .i64 (i : Nat))) w from ⟨i, rfl, by rw [nought_not HX.out h0, decide_eq_true (by omega)]; rfl, rfl⟩)
   clear h0 d3
   go_wp2_with fail
   refine HZ.out.mono ?_
   rintro e w2 ⟨rfl, rfl⟩
   go_wp2_with fail
   go_ret
   exact F.out
set_option maxHeartbeats 1000000 in
theorem nought_any {Q : Nat → Prop} (w : World) (v : Value) (n : Nat) (l : List Int) (h : Sl w Q 1 v n (bc l)) (hn : n ≤ 100000) :
 Calls Tryz.prog 96 #[v] w (SamePost w (.bool (nought l))) := by
 have HI := Lib.hid (indexf_any w v n l h hn)
 obtain ⟨a, c, rfl⟩ := h.form
 obtain ⟨b, hb⟩ : ∃ b, nought l = b := ⟨_, rfl⟩
 have HC := Lib.hid (show Calls Tryz.prog 141 #[.slice a n c, .func (.func 142) #[] #[]] w (SamePost w (.bool (!b))) from by
  clear h hn
  go_enter Tryz.func141, Tryz.ntmps141
  go_wp2_with fail
  refine HI.out.mono ?_
  rintro e w2 ⟨r, rfl, hr, rfl⟩
  rw [hb] at hr
  have F := Lib.hid (show SamePost w2 (.bool (!b)) (.returned (.bool (!b))) w2 from ⟨rfl, rfl⟩)
  go_wp2_with fail
  go_ret
  exact F.out)
 rw [hb]
 clear h hn HI hb
 have F := Lib.hid (show SamePost w (.bool b) (.returned (.bool b)) w from ⟨rfl, rfl⟩)
 have e : (!(!b)) = b := by cases b <;> rfl
 go_enter Tryz.func96, Tryz.ntmps96
 go_wp2_with fail
 refine HC.out.mono ?_
 rintro e w2 ⟨rfl, rfl⟩
 go_wp2_with fail
 go_ret
 exact F.out
end Go.Proofs.YtlcfoeikamkpmaaGreat

namespace Go.Proofs.YtlcfoeikamkpmaaGreat
open Go.RowKit Go.Wh Go.Maps

theorem count_nought {l : List Int} (hb : Byt l) : decide (((Go.Lib.countByte (Go.Lib.bytesOf l) 0 : Nat) : Int) = (l.length : Int)) = nought l := by
 have e : ((Go.Lib.countByte (Go.Lib.bytesOf l) 0 : Nat) : Int) = (l.length : Int) ↔ nought l = true := by
  rw [Int.natCast_inj]
  unfold Go.Lib.countByte Go.Lib.bytesOf nought
  have := List.count_eq_length (a := (0 : UInt8)) (l := l.map fun n => UInt8.ofNat n.toNat)
  rw [List.length_map] at this
  rw [this, List.all_eq_true]
  constructor
  · intro h x hx
    have h1 := h _ (List.mem_map_of_mem hx)
    have h2 := congrArg UInt8.toNat h1
    rw [UInt8.toNat_ofNat'] at h2
    have := hb x hx
    have h3 : x.toNat % 2 ^ 8 = 0 := h2.symm
    have : x = 0 := by omega
    simp [this]
  · intro h x hx
    obtain ⟨y, hy, rfl⟩ := List.mem_map.1 hx
    have : y = 0 := by simpa using h y hy
    rw [this]
    rfl
 by_cases h : nought l = true
 · rw [h, decide_eq_true (e.2 h)]
 · rw [decide_eq_false (fun k => h (e.1 k))]
   simpa using h
set_option maxHeartbeats 1000000 in
set_option maxRecDepth 100000 in
theorem count0_any {Q : Nat → Prop} (w : World) (v : Value) (n : Nat) (l : List Int) (h : Sl w Q 1 v n (bc l)) (hn : 0 < n) (b : Nat) (hb : cellsAt w b [.int .u8 0]) :
 Calls Tryz.prog 143 #[v, .slice (some ⟨b, 0, none⟩) 1 1] w (SamePost w (.int .i64 (Go.Lib.countByte (Go.Lib.bytesOf l) 0 : Nat))) := by
 have hln : l.length = n := by have := h.1; rw [bc_length] at this; omega
 obtain ⟨g, o, c, rfl, -, -, hc⟩ := h.pos hn
 have c0 : w.cell? ⟨b, 0, none⟩ = some (.int .u8 0) := hb.cell 0
 have HR := Lib.hid (Go.Lib.run_countSlice (P := Tryz.prog) w g o n c l hln (fun i hi => by
  refine hc i _ (bc_get ?_)
  rw [List.getD_eq_getElem?_getD, List.getElem?_eq_getElem (by omega)]
  rfl) 0)
 have F := Lib.hid (show SamePost w (.int .i64 (Go.Lib.countByte (Go.Lib.bytesOf l) 0 : Nat)) (.returned (.int .i64 (Go.Lib.countByte (Go.Lib.bytesOf l) 0 : Nat))) w from ⟨rfl, rfl⟩)
 clear h hb hc hln
 go_enter Tryz.func143, Tryz.ntmps143
 go_wp2
 rw [run_callFunc_extern Tryz.func169 (by kernel_rfl) (by kernel_rfl) (by kernel_rfl) (e := Extern.BytealgCount.count) (by kernel_rfl), HR.out]
 simp only [Result.andThen]
 rw [Oper.upon_value]
 go_wp2_with fail
 go_ret
 exact F.out
end Go.Proofs.YtlcfoeikamkpmaaGreat

namespace Go.Proofs.YtlcfoeikamkpmaaGreat
open Go.RowKit Go.Wh Go.Maps

section
variable {P : Program} {w : World} {ops : Array Oper} {rest : List Oper} {o : Oper} {a : Act} {Q : Exit → Act → World → Prop}
theorem grown_vec (w : World) (n : Nat) (cap : Nat) (e : TypeId) (xs : List Value) (cells : Array Value) (hn : n ≤ maxLen) (hx : xs.length = n) (hs : cells.size = grownCap w n cap e) (ht : cells.toList.take n = xs) :
 Vec (w.drew.alloc (.cells cells e)) 1 (.slice (some ⟨w.heap.size, 0, none⟩) n (grownCap w n cap e)) n xs ∧ ∀ S, Only S w (w.drew.alloc (.cells cells e)) :=
 ⟨vec_of_owns (base := 0) (e := e) ⟨by omega, .inr ⟨w.heap.size, _, cells, rfl, Nat.zero_le _, heap_alloc_new w.drew _, grownCap_ge w n cap e, grownCap_le_maxLen w n cap e hn, by omega, by rw [Nat.mul_one]; exact ht⟩⟩,
  fun S => Only.alloc (Only.drew (Only.refl _ _)) _⟩
theorem zeroCells_list (k : Nat) : (Builtin.zeroCells (Value.int .u8 0).cells k).toList = List.replicate k (.int .u8 0) := by
 refine List.ext_getElem ?_ fun j h1 h2 => ?_
 · simp [Builtin.zeroCells, Value.cells]
 · simp [Builtin.zeroCells, Value.cells, Nat.mod_one]
theorem run_append_vec_src (t tx ty e : TypeId) (i : TypeInfo) (h1 : P.underlying t = some (.slice e)) (h2 : P.info? e = some i) (h3 : i.zero = some (.int .u8 0)) (h4 : i.size = 1) (h5 : i.bytes = 1)
 {v : Value} {n : Nat} {xs : List Value} (hv : Vec w 1 v n xs) (hn : 0 < n) {x : Value} {m : Nat} {news : List Value} (hs : Src P 1 tx x m news w) (b1 : n + m ≤ 100000) :
 ∃ v' w', (Builtin.append_ #[t, tx] ty #[v, x]).run P w = .ok v' w' ∧ Vec w' 1 v' (n + m) (xs ++ news) ∧ Only (fun k => v.ownBlock = some k) w w' ∧ (v'.ownBlock = v.ownBlock ∨ ∃ g, v'.ownBlock = some g ∧ w.heap.size ≤ g ∧ g < w'.heap.size) := by
 obtain ⟨g, o, cap, rfl, h⟩ := hv.form hn
 have hl := h.len
 have hnl := hs.newsLen
 by_cases hr : n + m ≤ cap
 · have hsp : ∀ j, j < news.length → (w.cell? ⟨g, o + n * 1 + j, none⟩).isSome = true ∧ w.frozen? ⟨g, o + n * 1 + j, none⟩ = false := fun j hj => by
    rw [Nat.add_assoc]
    exact h.room _ (by omega)
   exact ⟨_, _, run_append_room_src (P := P) w t tx ty e i h1 h2 g o n cap x m news (by rw [h4]; exact hs) hr (fun j hj => by rw [h4]; exact (hsp j hj).1) (fun j hj => by rw [h4]; exact (hsp j hj).2),
    .inr ⟨g, o, cap, rfl, by rw [h4]; exact h.more m news hnl hr⟩, Only.grown (by rw [h4]; exact setCells_grown w g news _) (fun j hj => hj), .inl rfl⟩
 · have hold : (Builtin.firstCells i.size n (.slice (some ⟨g, o, none⟩) n cap)).run P w.drew = .ok xs.toArray w.drew :=
    run_firstCells_some (P := P) w.drew i.size n ⟨g, o, none⟩ n cap xs (by rw [h4]; exact hl) (fun j u hj => by
     rw [Addr.add_lit]
     exact (h.cells j (by rw [← hl]; exact (List.getElem?_eq_some_iff.1 hj).1)).trans hj)
   have hrun := run_append_grow_src (P := P) w t tx ty e i (.int .u8 0) h1 h2 h3 (some ⟨g, o, none⟩) n cap xs hold x m news (by rw [h4]; exact hs) (by omega) (by omega) (by rw [h5]; exact growslice_fits (by omega) (by omega))
   have hge := grownCap_ge w (n + m) cap e
   have hg := grown_vec w (n + m) cap e (xs ++ news) (by simp only [maxLen]; omega) (by rw [List.length_append]; omega) (cells := ((xs ++ news).toArray ++ Builtin.zeroCells (Value.int .u8 0).cells (grownCap w (n + m) cap e - (n + m))))
    (by rw [Array.size_append, ← Array.length_toList (xs := Builtin.zeroCells _ _), zeroCells_list, List.length_replicate, List.size_toArray, List.length_append]; omega)
    (by rw [Array.toList_append, List.take_append_of_le_length (by rw [List.length_append]; omega), List.take_of_length_le (by rw [List.length_append]; omega)])
   exact ⟨_, _, hrun, hg.1, hg.2 _, .inr ⟨w.heap.size, rfl, Nat.le_refl _, by simp⟩⟩
theorem run_append_vec_zeros (t tn ty e : TypeId) (i : TypeInfo) (kq kn : IntKind) (h1 : P.underlying t = some (.slice e)) (htn : P.underlying tn = some (.int kn)) (h2 : P.info? e = some i) (h3 : i.zero = some (.int .u8 0)) (h4 : i.size = 1) (h5 : i.bytes = 1)
 {v : Value} {n : Nat} {xs : List Value} (hv : Vec w 1 v n xs) (hn : 0 < n) (k : Nat) (hk : 0 < k) (b1 : n + k ≤ 100000) :
 ∃ v' w', (Builtin.append_ #[t, tn] ty #[v, .int kq k]).run P w = .ok v' w' ∧ Vec w' 1 v' (n + k) (xs ++ List.replicate k (.int .u8 0)) ∧ Only (fun k => v.ownBlock = some k) w w' ∧ (v'.ownBlock = v.ownBlock ∨ ∃ g, v'.ownBlock = some g ∧ w.heap.size ≤ g ∧ g < w'.heap.size) := by
 obtain ⟨g, o, cap, rfl, h⟩ := hv.form hn
 have hl := h.len
 have hnl : (List.replicate k (Value.int .u8 0)).length = k * 1 := by rw [List.length_replicate, Nat.mul_one]
 by_cases hr : n + k ≤ cap
 · have hsp : ∀ j, j < (List.replicate k (Value.int .u8 0)).length → (w.cell? ⟨g, o + n * 1 + j, none⟩).isSome = true ∧ w.frozen? ⟨g, o + n * 1 + j, none⟩ = false := fun j hj => by
    rw [Nat.add_assoc]
    exact h.room _ (by omega)
   have hst := run_storeCells_cells (P := P) g (o + n * 1) (List.replicate k (Value.int .u8 0)) 0 w (fun j hj => (hsp j hj).1) (fun j hj => (hsp j hj).2) (fun u hu => by rw [List.eq_of_mem_replicate hu]; rfl)
   simp only [Nat.add_zero] at hst
   refine ⟨_, _, ?_, .inr ⟨g, o, cap, rfl, h.more k _ hnl hr⟩, Only.grown (setCells_grown w g _ _) (fun j hj => hj), .inl rfl⟩
   have hkn : k ≠ 0 := by omega
   have hw : IntKind.i64.wrap (k : Int) = k := by rw [IntKind.wrap_i64]; omega
   have h48i : ¬ (281474976710656 < (k : Int)) := by omega
   have hneg : ¬ ((k : Int) < 0) := by omega
   have hz := zeroCells_list k
   rw [Nat.mul_one] at hst
   simp [Builtin.append_, run_underlying h1, run_underlying htn, sizeOf, typeInfo, zeroValue, h2, h3, h4, h5, asInt, asIntOf, hw, hneg, hkn, hr, h48i, Addr.add_lit, hz, hst]
 · have hold : (Builtin.firstCells i.size n (.slice (some ⟨g, o, none⟩) n cap)).run P w.drew = .ok xs.toArray w.drew :=
    run_firstCells_some (P := P) w.drew i.size n ⟨g, o, none⟩ n cap xs (by rw [h4]; exact hl) (fun j u hj => by
     rw [Addr.add_lit]
     exact (h.cells j (by rw [← hl]; exact (List.getElem?_eq_some_iff.1 hj).1)).trans hj)
   have hrun := Lib.run_append_grow_zeros (P := P) w t tn ty e i (.int .u8 0) kq kn h1 htn h2 h3 (some ⟨g, o, none⟩) n cap xs hold k hk (by omega) (by omega) (by omega) (by rw [h5]; omega) (by rw [h5]; exact growslice_fits (by omega) (by omega))
   have hge := grownCap_ge w (n + k) cap e
   have hg := grown_vec w (n + k) cap e (xs ++ List.replicate k (.int .u8 0)) (by simp only [maxLen]; omega) (by rw [List.length_append]; omega) (cells := (xs.toArray ++ Builtin.zeroCells (Value.int .u8 0).cells k ++ Builtin.zeroCells (Value.int .u8 0).cells (grownCap w (n + k) cap e - (n + k))))
    (by rw [Array.size_append, Array.size_append, ← Array.length_toList (xs := Builtin.zeroCells _ (grownCap w (n + k) cap e - (n + k))), zeroCells_list, ← Array.length_toList (xs := Builtin.zeroCells _ k), zeroCells_list, List.length_replicate, List.length_replicate, List.size_toArray]; omega)
    (by rw [Array.toList_append, Array.toList_append, zeroCells_list, List.take_append_of_le_length (by rw [List.length_append]; simp; omega), List.take_of_length_le (by rw [List.length_append]; simp; omega)])
   exact ⟨_, _, hrun, hg.1, hg.2 _, .inr ⟨w.heap.size, rfl, Nat.le_refl _, by simp⟩⟩
theorem wpList_append_vec_src (hgd : o.guard = none) (s x : Operand) (t tx : TypeId) (hop : o.op = Op.call { callee := Callee.builtin Builtin.append, args := #[s, x], argTypes := #[t, tx] })
 (e : TypeId) (i : TypeInfo) (h1 : P.underlying t = some (.slice e)) (h2 : P.info? e = some i) (h3 : i.zero = some (.int .u8 0)) (h4 : i.size = 1) (h5 : i.bytes = 1)
 (v : Value) (n : Nat) (xs : List Value) (hs : a.eval s = v) (hv : Vec w 1 v n xs) (hn : 0 < n) (vx : Value) (m : Nat) (news : List Value) (hxv : a.eval x = vx) (hx : Src P 1 tx vx m news w) (b1 : n + m ≤ 100000)
 (hK : ∀ v' w', Vec w' 1 v' (n + m) (xs ++ news) → Only (fun k => v.ownBlock = some k) w w' → (v'.ownBlock = v.ownBlock ∨ ∃ g, v'.ownBlock = some g ∧ w.heap.size ≤ g ∧ g < w'.heap.size) → wpList P ops Q rest (a.put o.dst v') w') :
 wpList P ops Q (o :: rest) a w := by
 refine wpList_plain hgd fun K hK' => ?_
 obtain ⟨v', w', hrun, r1, r2, r3⟩ := run_append_vec_src (P := P) t tx o.type e i h1 h2 h3 h4 h5 hv hn hx b1
 unfold Oper.wp
 simp [execOp, hop, resolve, invoke, builtin, hs, hxv, hrun, Result.andThen]
 exact hK' _ _ (hK v' w' r1 r2 r3)
theorem wpList_append_vec_zeros (hgd : o.guard = none) (s x : Operand) (t tn : TypeId) (hop : o.op = Op.call { callee := Callee.builtin Builtin.append, args := #[s, x], argTypes := #[t, tn] })
 (e : TypeId) (i : TypeInfo) (kq kn : IntKind) (h1 : P.underlying t = some (.slice e)) (htn : P.underlying tn = some (.int kn)) (h2 : P.info? e = some i) (h3 : i.zero = some (.int .u8 0)) (h4 : i.size = 1) (h5 : i.bytes = 1)
 (v : Value) (n : Nat) (xs : List Value) (hs : a.eval s = v) (hv : Vec w 1 v n xs) (hn : 0 < n) (k : Nat) (hxv : a.eval x = .int kq k) (hk : 0 < k) (b1 : n + k ≤ 100000)
 (hK : ∀ v' w', Vec w' 1 v' (n + k) (xs ++ List.replicate k (.int .u8 0)) → Only (fun k => v.ownBlock = some k) w w' → (v'.ownBlock = v.ownBlock ∨ ∃ g, v'.ownBlock = some g ∧ w.heap.size ≤ g ∧ g < w'.heap.size) → wpList P ops Q rest (a.put o.dst v') w') :
 wpList P ops Q (o :: rest) a w := by
 refine wpList_plain hgd fun K hK' => ?_
 obtain ⟨v', w', hrun, r1, r2, r3⟩ := run_append_vec_zeros (P := P) t tn o.type e i kq kn h1 htn h2 h3 h4 h5 hv hn k hk b1
 unfold Oper.wp
 simp [execOp, hop, resolve, invoke, builtin, hs, hxv, hrun, Result.andThen]
 exact hK' _ _ (hK v' w' r1 r2 r3)
end

def txt (s : ByteArray) : List Int := s.data.toList.map fun b => (b.toNat : Int)
def padB (s : ByteArray) (k : Nat) : List Int := ((s.size : Int) :: txt s) ++ List.replicate (k - s.size) 0
theorem txt_length (s : ByteArray) : (txt s).length = s.size := by
 unfold txt
 rw [List.length_map, Array.length_toList]
 rfl
theorem txt_cells (s : ByteArray) : byteCells s = bc (txt s) := by
 unfold byteCells bc txt
 rw [List.map_map]
 rfl
set_option maxHeartbeats 400000 in
set_option maxRecDepth 10000 in
theorem pad_any (w : World) (s : ByteArray) (m k : Nat) (hs : s.size = m) (hmk : m < k) (hk : k ≤ 100) :
 Calls Tryz.prog 59 #[.string s, .int .i64 (k : Int)] w (FreshPost w 1 (k + 1) (bc (padB s k))) := by
 obtain ⟨i0, hi, hz0, hz1, hz2⟩ := info_parts info_b
 have HI := Lib.hid (And.intro hi (And.intro hz0 (And.intro hz1 hz2)))
 obtain ⟨N, hN⟩ : ∃ N, k - m = N := ⟨_, rfl⟩
 have HB := Lib.hid (And.intro hs (And.intro hmk (And.intro hk hN)))
 have hwr : IntKind.u8.wrap (m : Int) = (m : Int) := by rw [IntKind.wrap_u8]; omega
 have hwr2 : IntKind.i64.wrap ((k : Int) - (m : Int)) = (N : Int) := by rw [IntKind.wrap_i64]; omega
 clear hi hz0 hz1 hz2 hmk hk hN
 go_enter Tryz.func59, Tryz.ntmps59
 have HV := Lib.hid (show Vec (w.alloc (.cells #[.int .u8 (m : Int)] 5)) 1 (.slice (some ⟨w.heap.size, 0, none⟩) 1 1) 1 [.int .u8 (m : Int)] from vec_block (t := 5) (cs := #[.int .u8 (m : Int)]) (heap_alloc_new _ _) rfl (by decide))
 have HSR := Lib.hid (fun w => Src.ofString (P := Tryz.prog) (w := w) (tx := 9) Tryz.underlying9 s)
 go_wp2_with (at_builtin; first
  | (refine wpList_append_vec_src rfl _ _ 22 9 rfl 5 i0 Tryz.underlying22 HI.out.1 HI.out.2.1 HI.out.2.2.1 HI.out.2.2.2 (.slice (some ⟨w.heap.size, 0, none⟩) 1 1) 1 [.int .u8 (m : Int)] rfl HV.out (by decide) (.string s) m (byteCells s) rfl (by have := HSR.out; rw [HB.out.1] at this; exact this _) (by have := HB.out; omega) ?_; intro v1 w1 hv1 ho1 hb1; have HV1 := Lib.hid (And.intro hv1 (And.intro ho1 hb1)); clear hv1 ho1 hb1)
  | (refine wpList_append_vec_zeros rfl _ _ 22 3 rfl 5 i0 .i64 .i64 Tryz.underlying22 Tryz.underlying3 HI.out.1 HI.out.2.1 HI.out.2.2.1 HI.out.2.2.2 v1 (1 + m) ([.int .u8 (m : Int)] ++ byteCells s) rfl HV1.out.1 (by omega) N rfl (by have := HB.out; omega) (by have := HB.out; omega) ?_; intro v2 w2 hv2 ho2 hb2; have HV2 := Lib.hid (And.intro hv2 (And.intro ho2 hb2)); clear hv2 ho2 hb2))
 have F := Lib.hid (show FreshPost w 1 (k + 1) (bc (padB s k)) (.returned v2) w2 from by
  obtain ⟨hv1, ho1, hb1⟩ := HV1.out
  obtain ⟨hv2, ho2, hb2⟩ := HV2.out
  obtain ⟨h1, h2, h3, h4⟩ := HB.out
  have e : bc (padB s k) = [.int .u8 (m : Int)] ++ byteCells s ++ List.replicate N (.int .u8 0) := by
   unfold padB
   rw [bc_append, txt_cells, h1, h4]
   simp [bc]
  have hz : (w.alloc (.cells #[.int .u8 (m : Int)] 5)).heap.size = w.heap.size + 1 := by simp
  have ob : (Value.slice (some ⟨w.heap.size, 0, none⟩) 1 1).ownBlock = some w.heap.size := rfl
  have b1 : ∀ g, v1.ownBlock = some g → w.heap.size ≤ g ∧ g < w1.heap.size := fun g hg => by
   have := ho1.size
   rcases hb1 with hb | ⟨g', hb, h4, h5⟩
   · rw [hb, ob] at hg
     cases hg
     omega
   · rw [hb] at hg
     cases hg
     omega
  refine ⟨_, rfl, ?_, ?_, fun g hg => ?_⟩
  · rw [e, show k + 1 = 1 + m + N by omega]
    exact hv2
  · exact (((Below.refl w.heap.size w).alloc (Nat.le_refl _) _).trans (ho1.below (by omega) fun i hi hx => by rw [ob] at hx; cases hx; omega)).trans (ho2.below (by have := ho1.size; omega) fun i hi hx => by have := (b1 i hx).1; omega)
  · have := ho2.size
    rcases hb2 with hb | ⟨g', hb, h4, h5⟩
    · rw [hb] at hg
      have := b1 g hg
      omega
    · rw [hb] at hg
      cases hg
      have := ho1.size
      omega)
 clear HV1 HV2 HV HSR HI
 go_wp2_with fail
 go_ret
 exact F.out
end Go.Proofs.YtlcfoeikamkpmaaGreat

namespace Go.Proofs.YtlcfoeikamkpmaaGreat
open Go.RowKit Go.Wh Go.Maps

theorem step_append_vec {P : Program} {ops : Array Oper} {o : Oper} {a : Act} {w : World} {K : Act → World → Prop} {Q : Exit → Act → World → Prop} {E : Prop}
 (hg : o.guard = none) (s x : Operand) (t : TypeId) (hop : o.op = Op.call { callee := Callee.builtin Builtin.append, args := #[s, x], argTypes := #[t, t] })
 (e : TypeId) (i : TypeInfo) (z : Value) (size bytes : Nat) (h1 : P.underlying t = some (.slice e)) (h2 : P.info? e = some i) (h3 : i.zero = some z) (h4 : i.size = size) (h5 : i.bytes = bytes) (h6 : z.cells.size = size) (h7 : 0 < size)
 (v : Value) (n : Nat) (xs : List Value) (hs : a.eval s = v) (hv : Vec w size v n xs) (vx : Value) (m : Nat) (news : List Value) (hxv : a.eval x = vx) (hx : Reads w size vx m news) (h1c : ∀ u ∈ news, u.oneCell' = true) (b1 : n + m ≤ maxLen) (b2 : (n + m) * bytes ≤ 140737488355328)
 (hK : ∀ v' w', Vec w' size v' (n + m) (xs ++ news) → Only (fun k => v.ownBlock = some k) w w' → (v'.ownBlock = v.ownBlock ∨ ∃ g, v'.ownBlock = some g ∧ w.heap.size ≤ g ∧ g < w'.heap.size) → K (a.put o.dst v') w') :
 if Region.wanted o (yielded ops a.tmps) = true then Oper.wp P o a w K Q else E := by
 obtain ⟨v', w', hrun, r1, r2, r3⟩ := run_append_vec (P := P) t o.type e i z size bytes h1 h2 h3 h4 h5 h6 h7 hv hx h1c b1 b2
 exact step_append_run hg s x t t hop v vx hs hxv hrun (hK _ _ r1 r2 r3)

theorem Still.of {w w' : World} (h : Below w.heap.size w w') : Still w w' := ⟨h.os, h.tape, h.output, h.size, fun i hi _ => h.block i hi⟩
theorem append_fresh {a w w' : World} {v v' : Value} (hs : Still a w) (hf : ∀ g, v.ownBlock = some g → a.heap.size ≤ g ∧ g < w.heap.size) (ho : Only (fun k => v.ownBlock = some k) w w') (hb : v'.ownBlock = v.ownBlock ∨ ∃ g, v'.ownBlock = some g ∧ w.heap.size ≤ g ∧ g < w'.heap.size) :
 Still a w' ∧ ∀ g, v'.ownBlock = some g → a.heap.size ≤ g ∧ g < w'.heap.size := by
 have hz := ho.size
 have ha := hs.size
 refine ⟨hs.andThen ho fun i hi e => by have := (hf i e).1; omega, fun g hg => ?_⟩
 rcases hb with e | ⟨g', e, h1, h2⟩
 · rw [e] at hg
   have := hf g hg
   omega
 · rw [e] at hg
   cases hg
   omega
theorem padB_length {s : ByteArray} {k : Nat} (h : s.size ≤ k) : (padB s k).length = k + 1 := by
 unfold padB
 rw [List.length_append, List.length_cons, txt_length, List.length_replicate]
 omega

set_option maxHeartbeats 400000 in
set_option maxRecDepth 10000 in
theorem rmay_any (w : World) (key sec val : ByteArray) (a b c : Nat) (ha : key.size = a) (hb : sec.size = b) (hc : val.size = c) (h1 : 1 ≤ a) (h2 : a < 8) (h3 : b < 6) (h4 : c < 8) :
 Calls Tryz.prog 58 #[.agg #[.string key, .string sec, .string val]] w (StPost w (.bool true)) := by
 have F := Lib.hid (show StPost w (.bool true) (.returned (.bool true)) (w.alloc (.cells #[.string key, .string sec, .string val] 60)) from ⟨rfl, (Still.refl w).alloc _⟩)
 have d1 : decide ((a : Int) ≥ 1) = true := decide_eq_true (by omega)
 have d2 : decide ((a : Int) ≤ 8) = true := decide_eq_true (by omega)
 have d3 : decide ((b : Int) ≤ 6) = true := decide_eq_true (by omega)
 have d4 : decide ((c : Int) ≤ 8) = true := decide_eq_true (by omega)
 have e1 : (1 : Int) ≤ (a : Int) := by omega
 have e2 : (a : Int) ≤ 8 := by omega
 have e3 : (b : Int) ≤ 6 := by omega
 have e4 : (c : Int) ≤ 8 := by omega
 have e5 : a ≤ 8 := by omega
 have e6 : b ≤ 6 := by omega
 have e7 : c ≤ 8 := by omega
 clear h2 h3 h4
 go_enter Tryz.func58, Tryz.ntmps58
 go_wp2_with fail
 go_ret
 exact F.out

def rowB (key sec val : ByteArray) : List Int := 1 :: (padB key 8 ++ padB sec 6 ++ padB val 8)
def RowPost (w : World) (l : List Int) (en : Ending) (w' : World) : Prop :=
 ∃ v, en = .returned (.tuple #[v, .int .i64 0]) ∧ Vec w' 1 v 26 (bc l) ∧ Below w.heap.size w w' ∧ ∀ g, v.ownBlock = some g → w.heap.size ≤ g ∧ g < w'.heap.size

set_option maxHeartbeats 1000000 in
set_option maxRecDepth 10000 in
theorem row_any (w : World) (key sec val : ByteArray) (a b c : Nat) (ha : key.size = a) (hb : sec.size = b) (hc : val.size = c) (h1 : 1 ≤ a) (h2 : a < 8) (h3 : b < 6) (h4 : c < 8) :
 Calls Tryz.prog 23 #[.agg #[.string key, .string sec, .string val]] w (RowPost w (rowB key sec val)) := by
 obtain ⟨i0, hi, hz0, hz1, hz2⟩ := info_parts info_b
 have HI := Lib.hid (And.intro hi (And.intro hz0 (And.intro hz1 hz2)))
 have HM := Lib.hid (fun w' => rmay_any w' key sec val a b c ha hb hc h1 h2 h3 h4)
 have HP1 := Lib.hid (fun w' => show Calls Tryz.prog 59 #[.string key, .int .i64 8] w' (FreshPost w' 1 9 (bc (padB key 8))) from pad_any w' key a 8 ha h2 (by decide))
 have HP2 := Lib.hid (fun w' => show Calls Tryz.prog 59 #[.string sec, .int .i64 6] w' (FreshPost w' 1 7 (bc (padB sec 6))) from pad_any w' sec b 6 hb h3 (by decide))
 have HP3 := Lib.hid (fun w' => show Calls Tryz.prog 59 #[.string val, .int .i64 8] w' (FreshPost w' 1 9 (bc (padB val 8))) from pad_any w' val c 8 hc h4 (by decide))
 have S0 := Lib.hid (show Below w.heap.size w (w.alloc (.cells #[.string key, .string sec, .string val] 60)) from (Below.refl _ _).alloc (Nat.le_refl _) _)
 have HC0 := Lib.hid (cellsAt_new w [.string key, .string sec, .string val] 60)
 have hsz := show (w.alloc (.cells #[.string key, .string sec, .string val] 60)).heap.size = w.heap.size + 1 by simp
 clear hi hz0 hz1 hz2 ha hb hc h1 h2 h3 h4
 go_enter Tryz.func23, Tryz.ntmps23
 go_upto_region 1 with fail
 generalize (w.alloc (.cells #[.string key, .string sec, .string val] 60)) = w1 at *
 have HSZ := Lib.hid hsz
 clear hsz
 have q0 : w1.cell? ⟨w.heap.size, 0, none⟩ = some (.string key) := HC0.out.cell 0
 have q1 : w1.cell? ⟨w.heap.size, 1, none⟩ = some (.string sec) := HC0.out.cell 1
 have q2 : w1.cell? ⟨w.heap.size, 2, none⟩ = some (.string val) := HC0.out.cell 2
 go_wp2_with (first
  | (go_at_call 58; refine (HM.out _).mono ?_; rintro e w2 ⟨rfl, hs2⟩; (have p0 := Still.cell hs2 q0); (have p1 := Still.cell hs2 q1); (have p2 := Still.cell hs2 q2); have HS2 := Lib.hid hs2; clear hs2 q0 q1 q2; have HA := Lib.hid (show Vec (w2.alloc (.cells #[.int .u8 1] 5)) 1 (.slice (some ⟨w2.heap.size, 0, none⟩) 1 1) 1 [.int .u8 1] from vec_block (t := 5) (cs := #[.int .u8 1]) (heap_alloc_new _ _) rfl (by decide)); have SA := Lib.hid (show Still w2 (w2.alloc (.cells #[.int .u8 1] 5)) from (Still.refl _).alloc _); have ZA := Lib.hid (show (w2.alloc (.cells #[.int .u8 1] 5)).heap.size = w2.heap.size + 1 by simp); have p0' := Still.cell SA.out p0)
  | (go_at_call 59; (with_reducible refine (HP1.out _).mono ?_); rintro e w4 ⟨v4, rfl, hv4, hb4, hg4⟩; have HV4 := Lib.hid (And.intro hv4 (HA.out.belowAll hb4)); have hs4 := SA.out.trans (Still.of hb4); have HS4 := Lib.hid (And.intro hs4 hb4.size); clear hv4 hb4 hg4 hs4)
  | (at_builtin; refine wpList_append_vec rfl _ _ 22 rfl 5 i0 _ 1 1 Tryz.underlying22 HI.out.1 HI.out.2.1 HI.out.2.2.1 HI.out.2.2.2 rfl (by decide) (.slice (some ⟨w2.heap.size, 0, none⟩) 1 1) 1 [.int .u8 1] rfl HV4.out.2 v4 9 (bc (padB key 8)) rfl HV4.out.1.reads (bc_one _) (by decide) (by decide) ?_; intro v5 w5 hv5 ho5 hb5; have AF5 := append_fresh HS4.out.1 (fun g hg => by have e : w2.heap.size = g := Option.some.inj hg; have := HS4.out.2; have := ZA.out; omega) ho5 hb5; have HV5 := Lib.hid (And.intro hv5 AF5); clear hv5 ho5 hb5 AF5))
 have hs5 := HV5.out.2.1
 have HBX := Lib.hid (fun w' (hs : Still w2 w') => show Still w2 w' ∧ w'.cell? ⟨w.heap.size, 1, none⟩ = some (.string sec) ∧ w'.cell? ⟨w.heap.size, 2, none⟩ = some (.string val) from ⟨hs, Still.cell hs p1, Still.cell hs p2⟩)
 clear p0 p1 p2 p0'
 go_region_held3 (fun w' => Still w2 w' ∧ w'.cell? ⟨w.heap.size, 1, none⟩ = some (.string sec) ∧ w'.cell? ⟨w.heap.size, 2, none⟩ = some (.string val)) (first | exact HBX.out _ (by assumption) | exact HBX.out _ (Only.drew (by assumption)))
  (first
   | (go_at_call 59; (with_reducible refine (HP2.out _).mono ?_); rintro e w6 ⟨v6, rfl, hv6, hb6, hg6⟩; have hs6 : Still w2 w6 := HV5.out.2.1.drew.trans (Still.of hb6); have HV6 := Lib.hid (And.intro hv6 (And.intro (show Vec w6 1 v5 (1 + 9) ([.int .u8 1] ++ bc (padB key 8)) from HV5.out.1.drew.belowAll hb6) (show ∀ g, v5.ownBlock = some g → w2.heap.size ≤ g ∧ g < w6.heap.size from fun g hg => by have h1 := HV5.out.2.2 g hg; have h2 : w5.heap.size ≤ w6.heap.size := hb6.size; omega))); clear hv6 hb6 hg6)
   | (refine step_append_vec rfl _ _ 22 rfl 5 i0 _ 1 1 Tryz.underlying22 HI.out.1 HI.out.2.1 HI.out.2.2.1 HI.out.2.2.2 rfl (by decide) v5 (1 + 9) ([.int .u8 1] ++ bc (padB key 8)) (by simp [Act.eval]) HV6.out.2.1 v6 7 (bc (padB sec 6)) (by simp [Act.eval]) HV6.out.1.reads (bc_one _) (by decide) (by decide) ?_; intro v7 w7 hv7 ho7 hb7; have AF7 := append_fresh hs6 HV6.out.2.2 ho7 hb7; have hs7 := AF7.1; have HV7 := Lib.hid (And.intro hv7 AF7); clear hv7 ho7 hb7 AF7)
   | (go_at_call 59; (with_reducible refine (HP3.out _).mono ?_); rintro e w8 ⟨v8, rfl, hv8, hb8, hg8⟩; have hs8 : Still w2 w8 := HV7.out.2.1.trans (Still.of hb8); have HV8 := Lib.hid (And.intro hv8 (And.intro (show Vec w8 1 v7 (1 + 9 + 7) ([.int .u8 1] ++ bc (padB key 8) ++ bc (padB sec 6)) from HV7.out.1.belowAll hb8) (show ∀ g, v7.ownBlock = some g → w2.heap.size ≤ g ∧ g < w8.heap.size from fun g hg => by have h1 := HV7.out.2.2 g hg; have h2 : w7.heap.size ≤ w8.heap.size := hb8.size; omega))); clear hv8 hb8 hg8)
   | (refine step_append_vec rfl _ _ 22 rfl 5 i0 _ 1 1 Tryz.underlying22 HI.out.1 HI.out.2.1 HI.out.2.2.1 HI.out.2.2.2 rfl (by decide) v7 (1 + 9 + 7) ([.int .u8 1] ++ bc (padB key 8) ++ bc (padB sec 6)) (by simp [Act.eval]) HV8.out.2.1 v8 9 (bc (padB val 8)) (by simp [Act.eval]) HV8.out.1.reads (bc_one _) (by decide) (by decide) ?_; intro v9 w9 hv9 ho9 hb9; have AF9 := append_fresh hs8 HV8.out.2.2 ho9 hb9; have hs9 := AF9.1; have HV9 := Lib.hid (And.intro hv9 AF9); clear hv9 ho9 hb9 AF9))
 have F := Lib.hid (show RowPost w (rowB key sec val) (.returned (.tuple #[v9, .int .i64 0])) w9 from by
  obtain ⟨h1, h2, h3⟩ := HV9.out
  have hz := HSZ.out
  have hz2 := HS2.out.size
  refine ⟨_, rfl, ?_, S0.out.trans (Only.below (HS2.out.trans h2) (by omega) fun _ _ e => e), fun g hg => ⟨by have := (h3 g hg).1; omega, (h3 g hg).2⟩⟩
  have e : bc (rowB key sec val) = [.int .u8 1] ++ bc (padB key 8) ++ bc (padB sec 6) ++ bc (padB val 8) := by
   unfold rowB
   rw [show (1 : Int) :: (padB key 8 ++ padB sec 6 ++ padB val 8) = [1] ++ (padB key 8 ++ padB sec 6 ++ padB val 8) from rfl, bc_append, bc_append, bc_append, List.append_assoc, List.append_assoc, List.append_assoc]
   rfl
  rw [e]
  exact h1)
 clear HV5 HV6 HV7 HV8 HV9 HBX hs5 hs6 hs7 hs8 hs9 HS2 S0 HC0 HP1 HP2 HP3 HM HA SA ZA HV4 HS4
 go_wp2_with fail
 go_ret2
 exact F.out
end Go.Proofs.YtlcfoeikamkpmaaGreat

namespace Go.Proofs.YtlcfoeikamkpmaaGreat
open Go.RowKit Go.Wh Go.Maps

section
variable {P : Program} {w : World}
theorem run_append_void (t ty e : TypeId) (i : TypeInfo) (h1 : P.underlying t = some (.slice e)) (h2 : P.info? e = some i) (aa ra : Option Addr) (n cap rc : Nat) (hle : n ≤ cap) :
 (Builtin.append_ #[t, t] ty #[.slice aa n cap, .slice ra 0 rc]).run P w = .ok (.slice aa n cap) w := by
 have hst : ∀ b, (storeCells b ([] : List Value)).run P w = Result.ok () w := fun b => rfl
 have hfc : (Builtin.firstCells i.size 0 (.slice ra 0 rc)).run P w = .ok #[] w := by
  cases ra with
  | none => simp [Builtin.firstCells]
  | some b => exact run_firstCells_some (P := P) w i.size 0 b 0 rc [] (by simp) (fun j u hj => by simp at hj)
 cases aa with
 | none => simp [Builtin.append_, run_underlying h1, sizeOf, typeInfo, h2, Builtin.lenOf, hle, hfc]
 | some b => simp [Builtin.append_, run_underlying h1, sizeOf, typeInfo, h2, Builtin.lenOf, hle, hfc, hst]
theorem run_append_at_zeros (t tn ty e : TypeId) (i : TypeInfo) (kq kn : IntKind) (h1 : P.underlying t = some (.slice e)) (htn : P.underlying tn = some (.int kn)) (h2 : P.info? e = some i) (h3 : i.zero = some (.int .u8 0)) (h4 : i.size = 1) (h5 : i.bytes = 1)
 {g o cap n : Nat} {xs : List Value} (h : VecAt w 1 g o n cap xs) (k : Nat) (b1 : n + k ≤ 100000) :
 ∃ v' w', (Builtin.append_ #[t, tn] ty #[.slice (some ⟨g, o, none⟩) n cap, .int kq k]).run P w = .ok v' w' ∧ Vec w' 1 v' (n + k) (xs ++ List.replicate k (.int .u8 0)) ∧ Only (fun k => k = g) w w' ∧ (v'.ownBlock = some g ∨ ∃ g, v'.ownBlock = some g ∧ w.heap.size ≤ g ∧ g < w'.heap.size) := by
 have hl := h.len
 rcases Nat.eq_zero_or_pos k with rfl | hk
 · refine ⟨.slice (some ⟨g, o, none⟩) n cap, w, ?_, by rw [List.replicate_zero, List.append_nil]; exact .inr ⟨g, o, cap, rfl, h⟩, Only.refl _ _, .inl rfl⟩
   have hle := h.le
   have hw : IntKind.i64.wrap 0 = 0 := rfl
   have hst : ∀ b, (storeCells b ([] : List Value)).run P w = Result.ok () w := fun b => rfl
   simp [Builtin.append_, run_underlying h1, run_underlying htn, sizeOf, typeInfo, zeroValue, h2, h3, h4, h5, asInt, asIntOf, hw, hle, hst]
 rcases Nat.eq_zero_or_pos n with rfl | hn
 · have hnl : xs = [] := by simpa using hl
   subst hnl
   by_cases hr : k ≤ cap
   · have hsp : ∀ j, j < (List.replicate k (Value.int .u8 0)).length → (w.cell? ⟨g, o + 0 * 1 + j, none⟩).isSome = true ∧ w.frozen? ⟨g, o + 0 * 1 + j, none⟩ = false := fun j hj => by
      rw [List.length_replicate] at hj
      rw [Nat.add_assoc]
      exact h.room _ (by omega)
     have hst := run_storeCells_cells (P := P) g (o + 0 * 1) (List.replicate k (Value.int .u8 0)) 0 w (fun j hj => (hsp j hj).1) (fun j hj => (hsp j hj).2) (fun u hu => by rw [List.eq_of_mem_replicate hu]; rfl)
     simp only [Nat.add_zero] at hst
     refine ⟨_, _, ?_, .inr ⟨g, o, cap, rfl, h.more k (List.replicate k (Value.int .u8 0)) (by rw [List.length_replicate, Nat.mul_one]) (by omega)⟩, Only.grown (setCells_grown w g _ _) (fun j hj => (Option.some.inj hj).symm), .inl rfl⟩
     have hkn : k ≠ 0 := by omega
     have hw : IntKind.i64.wrap (k : Int) = k := by rw [IntKind.wrap_i64]; omega
     have h48i : ¬ (281474976710656 < (k : Int)) := by omega
     have hneg : ¬ ((k : Int) < 0) := by omega
     have hz := zeroCells_list k
     rw [Nat.mul_one] at hst
     simp only [Nat.zero_mul, Nat.add_zero] at hst ⊢
     simp [Builtin.append_, run_underlying h1, run_underlying htn, sizeOf, typeInfo, zeroValue, h2, h3, h4, h5, asInt, asIntOf, hw, hneg, hkn, hr, h48i, Addr.add_lit, hz, hst]
   · have hold : (Builtin.firstCells i.size 0 (.slice (some ⟨g, o, none⟩) 0 cap)).run P w.drew = .ok ([] : List Value).toArray w.drew :=
      run_firstCells_some (P := P) w.drew i.size 0 ⟨g, o, none⟩ 0 cap [] (by simp) (fun j u hj => by simp at hj)
     have hrun := Lib.run_append_grow_zeros (P := P) w t tn ty e i (.int .u8 0) kq kn h1 htn h2 h3 (some ⟨g, o, none⟩) 0 cap [] hold k hk (by omega) (by omega) (by omega) (by rw [h5]; omega) (by rw [h5]; exact growslice_fits (by omega) (by omega))
     have hge := grownCap_ge w (0 + k) cap e
     have hg := grown_vec w (0 + k) cap e ([] ++ List.replicate k (.int .u8 0)) (by simp only [maxLen]; omega) (by rw [List.length_append, List.length_replicate]; rfl) (cells := (([] : List Value).toArray ++ Builtin.zeroCells (Value.int .u8 0).cells k ++ Builtin.zeroCells (Value.int .u8 0).cells (grownCap w (0 + k) cap e - (0 + k))))
      (by rw [Array.size_append, Array.size_append, ← Array.length_toList (xs := Builtin.zeroCells _ (grownCap w (0 + k) cap e - (0 + k))), zeroCells_list, ← Array.length_toList (xs := Builtin.zeroCells _ k), zeroCells_list, List.length_replicate, List.length_replicate, List.size_toArray, List.length_nil]; omega)
      (by rw [Array.toList_append, Array.toList_append, zeroCells_list, List.take_append_of_le_length (by rw [List.length_append]; simp), List.take_of_length_le (by rw [List.length_append]; simp)])
     exact ⟨_, _, hrun, hg.1, hg.2 _, .inr ⟨w.heap.size, rfl, Nat.le_refl _, by simp⟩⟩
 · obtain ⟨v', w', r1, r2, r3, r4⟩ := run_append_vec_zeros (P := P) (w := w) t tn ty e i kq kn h1 htn h2 h3 h4 h5 (.inr ⟨g, o, cap, rfl, h⟩) hn k hk b1
   exact ⟨v', w', r1, r2, r3.mono fun b e => by have e' : some g = some b := e; exact (Option.some.inj e').symm, r4⟩
end

theorem wpList_append_given {P : Program} {w : World} {ops : Array Oper} {rest : List Oper} {o : Oper} {a : Act} {Q : Exit → Act → World → Prop} (hw : Region.wanted o (yielded ops a.tmps) = true) (s x : Operand) (t tx : TypeId)
 (hop : o.op = Op.call { callee := Callee.builtin Builtin.append, args := #[s, x], argTypes := #[t, tx] }) (v vx : Value) (hs : a.eval s = v) (hx : a.eval x = vx) (v' : Value) (w' : World)
 (hrun : (Builtin.append_ #[t, tx] o.type #[v, vx]).run P w = .ok v' w') (hK : wpList P ops Q rest (a.put o.dst v') w') : wpList P ops Q (o :: rest) a w := by
 refine wpList_step fun K hK' => ?_
 rw [if_pos hw]
 unfold Oper.wp
 simp [execOp, hop, resolve, invoke, builtin, hs, hx, hrun, Result.andThen]
 exact hK' _ _ hK
theorem raw_row (w : World) (Q : Nat → Prop) (ra : Option Addr) (rc rn N : Nat) (R : List Int) (h : 0 < rn → Sl w Q 1 (.slice ra rn rc) rn (bc R)) (hl : R.length = rn) (h64 : rn ≤ 64) (hN : 64 - rn = N) :
 ∃ v1 w1 v2 w2, (Builtin.append_ #[22, 22] 22 #[.slice (some ⟨w.heap.size, 0, none⟩) 0 0, .slice ra rn rc]).run Tryz.prog (w.alloc (.cells #[] 5)) = .ok v1 w1 ∧
  (Builtin.append_ #[22, 3] 22 #[v1, .int .i64 (N : Int)]).run Tryz.prog w1 = .ok v2 w2 ∧ Reads w2 1 v2 64 (bc (R ++ List.replicate N 0)) ∧ Still w w2 ∧ (∀ g, v2.ownBlock = some g → w.heap.size ≤ g) ∧ Still w w1 := by
 obtain ⟨i0, hi, hz0, hz1, hz2⟩ := info_parts info_b
 have hz : (w.alloc (.cells #[] 5)).heap.size = w.heap.size + 1 := by simp
 have hs0 : Still w (w.alloc (.cells #[] 5)) := (Still.refl w).alloc _
 have hv0 : VecAt (w.alloc (.cells #[] 5)) 1 w.heap.size 0 0 0 [] := by
  have := Vec.none_ (w.alloc (.cells #[] 5)) 1 w.heap.size 0
  exact this.at
 have key : ∃ v1 w1, (Builtin.append_ #[22, 22] 22 #[.slice (some ⟨w.heap.size, 0, none⟩) 0 0, .slice ra rn rc]).run Tryz.prog (w.alloc (.cells #[] 5)) = .ok v1 w1 ∧ Still w w1 ∧
  ∃ g o cap, v1 = .slice (some ⟨g, o, none⟩) rn cap ∧ VecAt w1 1 g o rn cap (bc R) ∧ w.heap.size ≤ g := by
  rcases Nat.eq_zero_or_pos rn with rfl | hp
  · rw [List.length_eq_zero_iff.1 hl]
    exact ⟨_, _, run_append_void _ _ _ i0 Tryz.underlying22 hi _ _ _ _ _ (Nat.le_refl _), hs0, _, _, _, rfl, hv0, Nat.le_refl _⟩
  · obtain ⟨v1, w1, r1, r2, r3, r4⟩ := run_append_vec (P := Tryz.prog) (w := w.alloc (.cells #[] 5)) 22 22 5 i0 _ 1 1 Tryz.underlying22 hi hz0 hz1 hz2 rfl (by decide) (Vec.none_ _ _ _ _) ((h hp).still hs0).reads (bc_one R) (by simp only [maxLen]; omega) (by omega)
    rw [Nat.zero_add, List.nil_append] at r2
    have hst : Still w w1 := hs0.andThen r3 fun j hj e => by
     have e2 : w.heap.size = j := Option.some.inj e
     omega
    obtain ⟨g, o, cap, rfl, ht⟩ := r2.form hp
    refine ⟨_, w1, r1, hst, g, o, cap, rfl, ht, ?_⟩
    rcases r4 with e | ⟨g', e, e1, e2⟩
    · have e2 : some g = some w.heap.size := e
      injection e2 with e2
      omega
    · have e3 : some g = some g' := e
      injection e3 with e3
      omega
 obtain ⟨v1, w1, r1, hs1, g, o, cap, rfl, ht, hg⟩ := key
 obtain ⟨v2, w2, q1, q2, q3, q4⟩ := run_append_at_zeros (P := Tryz.prog) 22 3 22 5 i0 .i64 .i64 Tryz.underlying22 Tryz.underlying3 hi hz0 hz1 hz2 ht N (by omega)
 have e64 : rn + N = 64 := by omega
 rw [e64] at q2
 have hsz := hs1.size
 refine ⟨_, w1, v2, w2, r1, q1, ?_, hs1.andThen q3 fun j hj e => by omega, fun g' hg' => ?_, hs1⟩
 · rw [bc_append]
   have : bc (List.replicate N 0) = List.replicate N (.int .u8 0) := by
    unfold bc
    rw [List.map_replicate]
   rw [this]
   exact q2.reads
 · rcases q4 with e | ⟨g2, e, e1, e2⟩
   · rw [e] at hg'
     injection hg' with hg'
     omega
   · rw [e] at hg'
     injection hg' with hg'
     omega
theorem copy_row (w : World) (Q : Nat → Prop) (ra : Option Addr) (rc rn : Nat) (R : List Int) (h : 0 < rn → Sl w Q 1 (.slice ra rn rc) rn (bc R)) (hl : R.length = rn) (h64 : rn ≤ 10000) :
 ∃ g o cap w1, (Builtin.append_ #[22, 22] 22 #[.slice (some ⟨w.heap.size, 0, none⟩) 0 0, .slice ra rn rc]).run Tryz.prog (w.alloc (.cells #[] 5)) = .ok (.slice (some ⟨g, o, none⟩) rn cap) w1 ∧ Still w w1 ∧
  VecAt w1 1 g o rn cap (bc R) ∧ w.heap.size ≤ g ∧ g < w1.heap.size := by
 obtain ⟨i0, hi, hz0, hz1, hz2⟩ := info_parts info_b
 have hz : (w.alloc (.cells #[] 5)).heap.size = w.heap.size + 1 := by simp
 have hs0 : Still w (w.alloc (.cells #[] 5)) := (Still.refl w).alloc _
 have hv0 : VecAt (w.alloc (.cells #[] 5)) 1 w.heap.size 0 0 0 [] := by
  have := Vec.none_ (w.alloc (.cells #[] 5)) 1 w.heap.size 0
  exact this.at
 rcases Nat.eq_zero_or_pos rn with rfl | hp
 · rw [List.length_eq_zero_iff.1 hl]
   exact ⟨_, _, _, _, run_append_void _ _ _ i0 Tryz.underlying22 hi _ _ _ _ _ (Nat.le_refl _), hs0, hv0, Nat.le_refl _, by omega⟩
 · obtain ⟨v1, w1, r1, r2, r3, r4⟩ := run_append_vec (P := Tryz.prog) (w := w.alloc (.cells #[] 5)) 22 22 5 i0 _ 1 1 Tryz.underlying22 hi hz0 hz1 hz2 rfl (by decide) (Vec.none_ _ _ _ _) ((h hp).still hs0).reads (bc_one R) (by simp only [maxLen]; omega) (by omega)
   rw [Nat.zero_add, List.nil_append] at r2
   have hst : Still w w1 := hs0.andThen r3 fun j hj e => by
    have e2 : w.heap.size = j := Option.some.inj e
    omega
   have hz1 := r3.size
   obtain ⟨g, o, cap, rfl, ht⟩ := r2.form hp
   refine ⟨g, o, cap, w1, r1, hst, ht, ?_⟩
   rcases r4 with e | ⟨g', e, e1, e2⟩
   · have e2 : some g = some w.heap.size := e
     injection e2 with e2
     omega
   · have e3 : some g = some g' := e
     injection e3 with e3
     omega
end Go.Proofs.YtlcfoeikamkpmaaGreat
