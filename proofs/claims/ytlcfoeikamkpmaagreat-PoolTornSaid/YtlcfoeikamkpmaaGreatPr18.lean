/- A pool of pages: plain: what each of its operations answers and leaves. No program. No conditions. A page as two tiles. Conditions: its cells lie in memory. A stub's cell; a part of a cell. Conditions: the cell lies in memory. A part of a cell as a text. Conditions: the cell lies in memory. -/
import Derived.Test.YtlcfoeikamkpmaaGreatPr17
namespace Go.Proofs.YtlcfoeikamkpmaaGreat

structure PCf where
 first : Nat
 pages : Nat
 at_ : Nat
 n : Nat
 tr : Bool
structure PSt where
 D : PDk
 es : List PE
 st : Nat
 H : Hd PFr
def PPg.may (p : PPg) : Bool := lsnMay p.lsn && p.c.all (fun l => l.isEmpty || l.length == 26)
def PSt.force (c : PCf) (s : PSt) : Int × PSt := ((foB s.D c.at_ (streamB s.es) c.n s.es.length s.st).1, ⟨(foB s.D c.at_ (streamB s.es) c.n s.es.length s.st).2.1, s.es, (foB s.D c.at_ (streamB s.es) c.n s.es.length s.st).2.2, s.H⟩)
def PDk.two (D : PDk) (i : Int) (a b : List Int) : Int × PDk :=
 if (D.put i a).1 ≠ 0 then D.put i a
 else if ((D.put i a).2.put (i + 1) b).1 ≠ 0 then (D.put i a).2.put (i + 1) b
 else ((D.put i a).2.put (i + 1) b).2.sync
def PSt.ahead (c : PCf) (f : PFr) (s : PSt) : Int × PSt := if c.tr = true ∧ (s.st : Int) < f.p.lsn then s.force c else (0, s)
def PSt.write (c : PCf) (k : Int) (f : PFr) (s : PSt) : Int × PSt :=
 if (s.ahead c f).1 ≠ 0 then s.ahead c f
 else if f.p.may = false then (1, (s.ahead c f).2)
 else (((s.ahead c f).2.D.two ((c.first : Int) + 2 * k) (leafA f.p) (leafB f.p)).1, { (s.ahead c f).2 with D := ((s.ahead c f).2.D.two ((c.first : Int) + 2 * k) (leafA f.p) (leafB f.p)).2 })
def PSt.lay (c : PCf) (k : Int) (f : PFr) (s : PSt) : Int × PSt :=
 if (s.H.put PFr.void k f).1.2.2 = true ∧ (s.H.put PFr.void k f).1.2.1.dirty = true ∧ (s.write c (s.H.put PFr.void k f).1.1 (s.H.put PFr.void k f).1.2.1).1 ≠ 0 then s.write c (s.H.put PFr.void k f).1.1 (s.H.put PFr.void k f).1.2.1
 else if (s.H.put PFr.void k f).1.2.2 = true ∧ (s.H.put PFr.void k f).1.2.1.dirty = true then (0, { (s.write c (s.H.put PFr.void k f).1.1 (s.H.put PFr.void k f).1.2.1).2 with H := (s.H.put PFr.void k f).2 })
 else (0, { s with H := (s.H.put PFr.void k f).2 })
def PCf.may (c : PCf) (k : Int) : Bool := decide (0 ≤ k) && decide (k < c.pages)
def PSt.tile (c : PCf) (s : PSt) (k : Int) : List Int := s.D.T.getD (c.first + (k.toNat)) []
def PSt.get (c : PCf) (k : Int) (s : PSt) : Int × PFr × PSt :=
 if c.may k = false then (1, PFr.void, s)
 else match s.H.look k with
  | some f => (0, f, { s with H := s.H.touch k })
  | none =>
   if s.D.dead = true then (2, PFr.void, s)
   else if (takeT (s.tile c (2 * k)) (s.tile c (2 * k + 1))).1 ≠ 0 then ((takeT (s.tile c (2 * k)) (s.tile c (2 * k + 1))).1, PFr.void, s)
   else ((s.lay c k ⟨(takeT (s.tile c (2 * k)) (s.tile c (2 * k + 1))).2, false, 0⟩).1, ⟨(takeT (s.tile c (2 * k)) (s.tile c (2 * k + 1))).2, false, 0⟩, (s.lay c k ⟨(takeT (s.tile c (2 * k)) (s.tile c (2 * k + 1))).2, false, 0⟩).2)
def PPg.set (p : PPg) (i : Nat) (b : List Int) (z : Int) : PPg := ⟨p.c.set i b, z⟩
def PSt.set (c : PCf) (k i : Int) (b : List Int) (z : Int) (s : PSt) : Int × PSt :=
 if (s.get c k).1 ≠ 0 then ((s.get c k).1, (s.get c k).2.2)
 else if i < 0 ∨ 4 ≤ i ∨ (b.length ≠ 0 ∧ b.length ≠ 26) then (1, (s.get c k).2.2)
 else if z ≤ (s.get c k).2.1.p.lsn then (0, (s.get c k).2.2)
 else (0, { (s.get c k).2.2 with H := ((s.get c k).2.2.H.put PFr.void k ⟨(s.get c k).2.1.p.set i.toNat b z, true, if (s.get c k).2.1.dirty = true then (s.get c k).2.1.rec_ else z⟩).2 })
def PSt.laid (c : PCf) (k : Int) (g : PPg) (r : Int) (s : PSt) : Int × PSt :=
 if c.may k = false then (1, s)
 else if g.may = false then (1, s)
 else s.lay c k ⟨g, true, match s.H.look k with
  | some f => if f.dirty = true then min r f.rec_ else r
  | none => r⟩
def PSt.flush (c : PCf) (k : Int) (s : PSt) : Int × PSt :=
 if c.may k = false then (1, s)
 else match s.H.look k with
  | none => (0, s)
  | some f => if f.dirty = false then (0, s)
   else if (s.write c k f).1 ≠ 0 then s.write c k f
   else (0, { (s.write c k f).2 with H := (s.write c k f).2.H.swap k { f with dirty := false } })
end Go.Proofs.YtlcfoeikamkpmaaGreat

namespace Go.Proofs.YtlcfoeikamkpmaaGreat
open Go.RowKit Go.Wh Go.Maps

theorem make26 (w : World) : (Instr.makeSlice 22 (.int .i64 26) (.int .i64 26)).run Tryz.prog w = .ok (.slice (some ⟨w.heap.size, 0, none⟩) 26 26) (w.alloc (.cells (bc (List.replicate 26 0)).toArray 5)) := by
 obtain ⟨i, hi, hz0, hz1, hz2⟩ := info_parts info_b
 have h := run_makeSlice (P := Tryz.prog) (w := w) 22 5 i (.int .u8 0) Tryz.underlying22 hi hz0 .i64 .i64 26 26 (by omega) (by omega) (by rw [hz1]; decide) (by rw [hz2]; decide) (by decide)
 rw [hz1] at h
 have e : madeCells (Value.int .u8 0).cells (Int.toNat 26 * 1) = (bc (List.replicate 26 0)).toArray := by kernel_rfl
 rw [e] at h
 exact h
def zeros26 : Array Value := (bc (List.replicate 26 0)).toArray
theorem full_any {Q : Nat → Prop} (w : World) (v : Value) (l : List Int) (h : Sl w Q 1 v l.length (bc l)) (hl : l = [] ∨ l.length = 26) :
 Calls Tryz.prog 79 #[v] w (fun e w' => ∃ v', e = .returned v' ∧ Reads w' 1 v' 26 (bc (fullB l)) ∧ Still w w') := by
 obtain ⟨a, c, rfl⟩ := h.form
 have hmk : ∀ w : World, (Instr.makeSlice 22 (.int .i64 26) (.int .i64 26)).run Tryz.prog w = .ok (.slice (some ⟨w.heap.size, 0, none⟩) 26 26) (w.alloc (.cells zeros26 5)) := make26
 rcases hl with rfl | hl
 · have F := Lib.hid (show ∃ v', Ending.returned (.slice (some ⟨w.heap.size, 0, none⟩) 26 26) = .returned v' ∧ Reads (w.alloc (.cells zeros26 5)) 1 v' 26 (bc (fullB [])) ∧ Still w (w.alloc (.cells zeros26 5)) from
    ⟨_, rfl, cellsAt.reads (cellsAt_new w (bc (List.replicate 26 0)) 5) rfl, (Still.refl w).alloc _⟩)
   clear h
   go_enter Tryz.func79, Tryz.ntmps79
   go_wp2_with fail
   go_ret
   exact F.out
 · have F := Lib.hid (show ∃ v', Ending.returned (.slice a 26 c) = .returned v' ∧ Reads w 1 v' 26 (bc (fullB l)) ∧ Still w w from by
    refine ⟨_, rfl, ?_, Still.refl w⟩
    unfold fullB
    rw [if_neg (fun e => by rw [e] at hl; cases hl)]
    rw [hl] at h
    exact h.reads)
   rw [hl]
   clear h hmk
   go_enter Tryz.func79, Tryz.ntmps79
   go_wp2_with fail
   go_ret
   exact F.out
structure PgIs (w : World) (Q : Nat → Prop) (vs : List Value) (ls : List (List Int)) : Prop where
 n : vs.length = 4
 m : ls.length = 4
 at_ : ∀ (i : Nat) (v : Value) (l : List Int), vs[i]? = some v → ls[i]? = some l → Sl w Q 1 v l.length (bc l)
theorem PgIs.only {w w' : World} {Q X : Nat → Prop} {vs : List Value} {ls : List (List Int)} (h : PgIs w Q vs ls) (ho : Only X w w') (hq : ∀ g, Q g → ¬ X g) : PgIs w' Q vs ls := ⟨h.n, h.m, fun i v l h1 h2 => (h.at_ i v l h1 h2).only ho hq⟩
theorem PgIs.still {w w' : World} {Q : Nat → Prop} {vs : List Value} {ls : List (List Int)} (h : PgIs w Q vs ls) (hs : Still w w') : PgIs w' Q vs ls := h.only hs fun _ _ e => e
theorem PgIs.mono {w : World} {Q R : Nat → Prop} {vs : List Value} {ls : List (List Int)} (h : PgIs w Q vs ls) (hr : ∀ g, Q g → R g) : PgIs w R vs ls := ⟨h.n, h.m, fun i v l h1 h2 => (h.at_ i v l h1 h2).mono hr⟩
def okC (l : List Int) : Bool := l.isEmpty || l.length == 26
theorem okC_iff {l : List Int} : okC l = true ↔ l = [] ∨ l.length = 26 := by simp [okC]
theorem body_len : ∀ (ls : List (List Int)), (∀ l ∈ ls, okC l = true) → (ls.flatMap fullB).length = ls.length * 26
 | [], _ => rfl
 | l :: ls, h => by
  rw [List.flatMap_cons, List.length_append, fullB_length (okC_iff.1 (h l (by simp))), body_len ls (fun x hx => h x (by simp [hx])), List.length_cons, Nat.add_mul]
  omega
def LpPost (w : World) (p : PPg) (e : Ending) (w' : World) : Prop := if p.may = true then TwoPost w (leafA p) (leafB p) e w' else NoTwo w e w'
set_option maxHeartbeats 2000000 in
set_option maxRecDepth 100000 in
theorem lput_any {Q : Nat → Prop} (w : World) (p : PPg) (v0 v1 v2 v3 : Value) (h : PgIs w Q [v0, v1, v2, v3] p.c) :
 Calls Tryz.prog 48 #[.agg #[v0, v1, v2, v3, .int .i64 p.lsn]] w (LpPost w p) := by
 obtain ⟨ti, hi0, hi1, hi2, hi3⟩ := info_parts info_b
 have HI := Lib.hid (And.intro hi0 (And.intro hi1 (And.intro hi2 hi3)))
 have HH := Lib.hid h
 obtain ⟨z, hz⟩ : ∃ z, p.lsn = z := ⟨_, rfl⟩
 have HZ := Lib.hid hz
 rw [hz]
 clear h hi0 hi1 hi2 hi3 hz
 go_enter Tryz.func48, Tryz.ntmps48
 go_upto_region 3 with fail
 have hc := cellsAt_new w [v0, v1, v2, v3, .int .i64 z] 36
 have hs1 : Still w (w.alloc (.cells #[v0, v1, v2, v3, .int .i64 z] 36)) := (Still.refl w).alloc _
 change cellsAt (w.alloc (.cells #[v0, v1, v2, v3, .int .i64 z] 36)) w.heap.size _ at hc
 generalize (w.alloc (.cells #[v0, v1, v2, v3, .int .i64 z] 36)) = w1 at *
 obtain ⟨b, hb⟩ : ∃ b, w.heap.size = b := ⟨_, rfl⟩
 rw [hb] at hc
 rw [hb]
 have H1 := Lib.hid (And.intro hs1 (And.intro hc hb))
 clear hs1 hc hb
 go_loopw [5, 10] (fun s5 s10 wr => ∃ i : Nat, s10 = .int .i64 i ∧ i ≤ 4 ∧ Still w wr ∧ cellsAt wr b [v0, v1, v2, v3, .int .i64 z] ∧ Vec wr 1 s5 (26 * i) (bc ((p.c.take i).flatMap fullB)) ∧ (∀ g, s5.ownBlock = some g → b < g ∧ g < wr.heap.size) ∧ ∀ l ∈ p.c.take i, okC l = true) (fun _ s10 _ => 4 - (intOf s10).toNat)
 case atStart => exact ⟨0, rfl, Nat.zero_le _, H1.out.1, H1.out.2.1, Vec.nil _ _, (fun g e => by cases e), fun l hl => by simp at hl⟩
 obtain ⟨i, rfl, hin, hs, hc, hv, hf, hok⟩ := hrel
 obtain ⟨va, vc, rfl⟩ := hv.form'
 have HR := Lib.hid (And.intro hs (And.intro hc (And.intro hv (And.intro hf hok))))
 by_cases hi : i < 4
 rotate_left
 · have d1 : decide ((i : Int) < 4) = false := decide_eq_false (by omega)
   have d2 : decide (i < 4) = false := decide_eq_false hi
   have c4 : wr.cell? ⟨b, 4, none⟩ = some (.int .i64 z) := hc.cell 4
   have hi4 : i = 4 := by omega
   have ht : p.c.take i = p.c := List.take_of_length_le (by have := HH.out.m; omega)
   have hbl := body_len p.c (by rw [← ht]; exact hok)
   have hsl : Sl wr (fun _ => True) 1 (.slice va 104 vc) 104 (bc p.body) := by
    have := Vec.sl0 hv (by omega)
    rw [ht, hi4] at this
    exact this
   have e26 : 26 * i = 104 := by omega
   have HS := Lib.hid (sput_any wr z (.slice va 104 vc) p.body hsl (by have := Vec.capOf hv; rw [e26] at this; exact this))
   have HL := Lib.hid (show lsnMay z = p.may from by
    unfold PPg.may
    have : p.c.all (fun l => l.isEmpty || l.length == 26) = true := by
     rw [List.all_eq_true]
     intro l hl
     exact hok l (by rw [ht]; exact hl)
    rw [this, HZ.out, Bool.and_true])
   rw [e26]
   clear hs hc hv hf hok hi hin hi4 ht hbl hsl e26
   go_wp2_with fail
   refine HS.out.mono ?_
   intro e w2 hp
   unfold PutPost at hp
   by_cases hm : lsnMay z = true
   · rw [if_pos hm] at hp
     obtain ⟨va, vb, rfl, k1, k2, k3, k4, k5⟩ := hp
     have F := Lib.hid (show LpPost w p (.returned (.tuple #[va, vb, .int .i64 0])) w2 from by
      unfold LpPost
      rw [if_pos (by rw [← HL.out]; exact hm)]
      have h1 := HR.out.1.size
      refine ⟨va, vb, rfl, ?_, ?_, HR.out.1.trans k3, fun g hg => by have := k4 g hg; omega, fun g hg => by have := k5 g hg; omega⟩
      · unfold leafA; rw [HZ.out]; exact k1
      · unfold leafB; rw [HZ.out]; exact k2)
     clear k1 k2 k3 k4 k5
     go_wp2_with fail
     go_ret3
     exact F.out
   · rw [if_neg hm] at hp
     obtain ⟨rfl, k⟩ := hp
     have F := Lib.hid (show LpPost w p (.returned (.tuple #[.slice none 0 0, .slice none 0 0, .int .i64 1])) w2 from by
      unfold LpPost
      rw [if_neg (by rw [← HL.out]; exact hm)]
      exact ⟨rfl, HR.out.1.trans k⟩)
     clear k
     go_wp2_with fail
     go_ret3
     exact F.out
 have d1 : decide ((i : Int) < 4) = true := decide_eq_true (by omega)
 have d2 : decide (i < 4) = true := decide_eq_true hi
 have i0 : (0 : Int) ≤ (i : Int) := by omega
 have i1 : (i : Int) < (4 : Int) := by omega
 have u9 : IntKind.i64.wrap ((i : Int) + 1) = (i : Int) + 1 := IntWalk.i64_in _ (by omega)
 obtain ⟨v, hv'⟩ : ∃ v, [v0, v1, v2, v3][i]? = some v := ⟨_, List.getElem?_eq_getElem (by simp; omega)⟩
 obtain ⟨l, hl'⟩ : ∃ l, p.c[i]? = some l := ⟨_, List.getElem?_eq_getElem (by have := HH.out.m; omega)⟩
 have hsl := (HH.out.at_ i v l hv' hl').still hs
 have hix : ∀ w : World, (Instr.index 34 (.agg #[v0, v1, v2, v3]) (.int .i64 (i : Int))).run Tryz.prog w = .ok v w := fun w => by
  rcases (show i = 0 ∨ i = 1 ∨ i = 2 ∨ i = 3 from by omega) with rfl | rfl | rfl | rfl <;> (cases hv'; rfl)
 have HL' := Lib.hid hl'
 have HI' := Lib.hid hi
 clear hs hc hv hf hok hv' hl' hin hi
 obtain ⟨ea, ec, rfl⟩ := hsl.form
 by_cases hok : l = [] ∨ l.length = 26
 rotate_left
 · have n1 : ¬ l.length = 0 := fun e => hok (.inl (List.length_eq_zero_iff.1 e))
   have n2 : ¬ l.length = 26 := fun e => hok (.inr e)
   have F := Lib.hid (show LpPost w p (.returned (.tuple #[.slice none 0 0, .slice none 0 0, .int .i64 1])) wr from by
    unfold LpPost
    rw [if_neg (fun e => by
     unfold PPg.may at e
     rw [Bool.and_eq_true, List.all_eq_true] at e
     exact hok (okC_iff.1 (e.2 l (List.mem_of_getElem? HL'.out))))]
    exact ⟨rfl, HR.out.1⟩)
   obtain ⟨m, hm⟩ : ∃ m, l.length = m := ⟨_, rfl⟩
   rw [hm] at n1 n2 hix
   have e1 : ¬ (m : Int) = 0 := by omega
   have e2 : ¬ (m : Int) = 26 := by omega
   have e3 : ((m : Int) != 0) = true := bne_iff_ne.2 e1
   have e4 : ((m : Int) != 26) = true := bne_iff_ne.2 e2
   clear hok hsl hm
   go_wp2_with fail
   go_ret3
   exact F.out
 have HF := Lib.hid (fun w' (hs : Still wr w') => full_any w' (.slice ea l.length ec) l (hsl.still hs) hok)
 have HOK := Lib.hid hok
 obtain ⟨m, hm⟩ : ∃ m, l.length = m := ⟨_, rfl⟩
 have hm2 : m = 0 ∨ m = 26 := by
  rcases hok with rfl | h
  · exact .inl hm.symm
  · exact .inr (hm.symm.trans h)
 rw [hm] at hix HF
 clear hok hsl hm
 have HNX : ∀ v' w2 v3' w3, Reads w2 1 v' 26 (bc (fullB l)) → Still wr w2 → Vec w3 1 v3' (26 * i + 26) (bc ((p.c.take i).flatMap fullB) ++ bc (fullB l)) → Only (fun k => (Value.slice va (26 * i) vc).ownBlock = some k) w2 w3 → (v3'.ownBlock = (Value.slice va (26 * i) vc).ownBlock ∨ ∃ g, v3'.ownBlock = some g ∧ w2.heap.size ≤ g ∧ g < w3.heap.size) →
  Hid (Still w w3 ∧ cellsAt w3 b [v0, v1, v2, v3, .int .i64 z] ∧ Vec w3 1 v3' (26 * (i + 1)) (bc ((p.c.take (i + 1)).flatMap fullB)) ∧ (∀ g, v3'.ownBlock = some g → b < g ∧ g < w3.heap.size) ∧ ∀ l ∈ p.c.take (i + 1), okC l = true) := fun v' w2 v3' w3 _ hs2 hv3 ho hb3 => by
  obtain ⟨hs, hc, hv, hf, hok⟩ := HR.out
  have hz2 := hs2.size
  have hz3 := ho.size
  have hbs := hc.lt
  have e : p.c.take (i + 1) = p.c.take i ++ [l] := by rw [List.take_add_one, HL'.out]; rfl
  refine Lib.hid ⟨?_, (hc.only hs2 fun e => e).only ho (fun e => by have := (hf b e).1; omega), ?_, ?_, ?_⟩
  · refine (hs.trans hs2).andThen ho fun g hg e => ?_
    have := (hf g e).1
    have := H1.out.2.2
    omega
  · rw [e, List.flatMap_append, show 26 * (i + 1) = 26 * i + 26 by omega]
    have e2 : bc ((p.c.take i).flatMap fullB ++ [l].flatMap fullB) = bc ((p.c.take i).flatMap fullB) ++ bc (fullB l) := by
     unfold bc
     rw [List.map_append]
     simp
    rw [e2]
    exact hv3
  · intro g hg
    rcases hb3 with hb3 | ⟨g', h1, h2, h3⟩
    · rw [hb3] at hg
      have := hf g hg
      omega
    · rw [h1] at hg
      cases hg
      omega
  · rw [e]
    intro x hx
    rcases List.mem_append.1 hx with hx | hx
    · exact hok x hx
    · rw [List.mem_singleton.1 hx]
      exact okC_iff.2 HOK.out
 have HNX := Lib.hid HNX
 have HB1 := Lib.hid (show 26 * i + 26 ≤ maxLen from by simp only [maxLen]; omega)
 have HB2 := Lib.hid (show (26 * i + 26) * 1 ≤ 140737488355328 from by omega)
 rcases hm2 with rfl | rfl
 all_goals
  go_upto_region 6 with fail
  go_upto_region 7 with fail
  go_wp2_with fail
  refine (HF.out wr (Still.refl _)).mono ?_
  rintro e w2 ⟨v', rfl, hr2, hs2⟩
  have HR2 := Lib.hid (And.intro hr2 hs2)
  have HA2 := Lib.hid (show Vec w2 1 (.slice va (26 * i) vc) (26 * i) (bc ((p.c.take i).flatMap fullB)) from HR.out.2.2.1.belowAll (Only.below hs2 (Nat.le_refl _) fun _ _ e => e))
  obtain ⟨xa, xc, rfl⟩ : ∃ xa xc, v' = .slice xa 26 xc := by
   rcases hr2.2 with ⟨rfl, e⟩ | ⟨a, c, rfl, -⟩
   · omega
   · exact ⟨_, _, rfl⟩
  clear hr2 hs2
  go_wp2_with (at_builtin; refine wpList_append_vec rfl _ _ 22 rfl 5 ti _ 1 1 Tryz.underlying22 HI.out.1 HI.out.2.1 HI.out.2.2.1 HI.out.2.2.2 rfl (by decide) (.slice va (26 * i) vc) (26 * i) (bc ((p.c.take i).flatMap fullB)) (by simp [Act.eval]) HA2.out (.slice xa 26 xc) 26 (bc (fullB l)) (by simp [Act.eval]) HR2.out.1 (bc_one _) HB1.out HB2.out ?_; intro v3' w3 hv3 ho3 hb3; have HN := HNX.out _ _ v3' w3 HR2.out.1 HR2.out.2 hv3 ho3 hb3; clear hv3 ho3 hb3)
  go_roundw
  case rel => exact ⟨i + 1, by go_num, by have := HI'.out; omega, HN.out⟩
  case measure => first | (simp [intOf]; done) | (simp [intOf]; have := HI'.out; omega)
end Go.Proofs.YtlcfoeikamkpmaaGreat

namespace Go.Proofs.YtlcfoeikamkpmaaGreat
open Go.RowKit Go.Wh Go.Maps

def stubB (p c : Int) : List Int := 2 :: p :: c :: List.replicate 23 0
def stubMay (p c : Int) : Bool := decide (0 ≤ p) && decide (p < 32) && decide (0 ≤ c) && decide (c < 4)
def CsPost (w : World) (p c : Int) (e : Ending) (w' : World) : Prop :=
 if stubMay p c = true then ∃ v', e = .returned (.tuple #[v', .int .i64 0]) ∧ Vec w' 1 v' 26 (bc (stubB p c)) ∧ Still w w' ∧ ∀ g, v'.ownBlock = some g → w.heap.size ≤ g ∧ g < w'.heap.size
 else e = .returned (.tuple #[.slice none 0 0, .int .i64 1]) ∧ Still w w'
set_option maxHeartbeats 1000000 in
set_option maxRecDepth 100000 in
theorem cstub_any (w : World) (p c : Int) :
 Calls Tryz.prog 146 #[.agg #[.int .i64 p, .int .i64 c]] w (CsPost w p c) := by
 have hmk : ∀ w : World, (Instr.makeSlice 22 (.int .i64 26) (.int .i64 26)).run Tryz.prog w = .ok (.slice (some ⟨w.heap.size, 0, none⟩) 26 26) (w.alloc (.cells zeros26 5)) := make26
 cases hm : stubMay p c with
 | false =>
  have F := Lib.hid (fun w' (hs : Still w w') => show CsPost w p c (.returned (.tuple #[.slice none 0 0, .int .i64 1])) w' from by
   unfold CsPost
   rw [if_neg (by rw [hm]; decide)]
   exact ⟨rfl, hs⟩)
  unfold stubMay at hm
  simp only [Bool.and_eq_false_iff, decide_eq_false_iff_not] at hm
  have hm' : p < 0 ∨ (0 ≤ p ∧ 32 ≤ p) ∨ ((0 ≤ p ∧ p < 32) ∧ c < 0) ∨ (0 ≤ p ∧ p < 32) ∧ 0 ≤ c ∧ 4 ≤ c := by omega
  clear hm hmk
  have F2 := Lib.hid (F.out (w.alloc (.cells #[.int .i64 p, .int .i64 c] 64)) ((Still.refl w).alloc _))
  clear F
  rcases hm' with h | ⟨h1, h⟩ | ⟨⟨h1, h2⟩, h⟩ | ⟨⟨h1, h2⟩, h3, h⟩ <;>
  · go_enter Tryz.func146, Tryz.ntmps146
    go_wp2_with fail
    go_ret2
    exact F2.out
 | true =>
  have HM := Lib.hid hm
  unfold stubMay at hm
  simp only [Bool.and_eq_true, decide_eq_true_eq] at hm
  obtain ⟨⟨⟨h1, h2⟩, h3⟩, h4⟩ := hm
  have u1 : IntKind.u8.wrap p = p := by rw [IntKind.wrap_u8]; omega
  have u2 : IntKind.u8.wrap c = c := by rw [IntKind.wrap_u8]; omega
  go_enter Tryz.func146, Tryz.ntmps146
  go_upto_region 4 with fail
  have hc := (cellsAt_new w [.int .i64 p, .int .i64 c] 64).alloc (.cells zeros26 5)
  have hB := cellsAt_new (w.alloc (.cells #[.int .i64 p, .int .i64 c] 64)) (bc (List.replicate 26 0)) 5
  have hz : (w.alloc (.cells #[.int .i64 p, .int .i64 c] 64)).heap.size = w.heap.size + 1 := by simp
  rw [hz] at hB
  change cellsAt ((w.alloc (.cells #[.int .i64 p, .int .i64 c] 64)).alloc (.cells zeros26 5)) w.heap.size _ at hc
  change cellsAt ((w.alloc (.cells #[.int .i64 p, .int .i64 c] 64)).alloc (.cells zeros26 5)) (w.heap.size + 1) _ at hB
  have hs : Still w ((w.alloc (.cells #[.int .i64 p, .int .i64 c] 64)).alloc (.cells zeros26 5)) := ((Still.refl w).alloc _).alloc _
  clear hmk hz
  generalize ((w.alloc (.cells #[.int .i64 p, .int .i64 c] 64)).alloc (.cells zeros26 5)) = w1 at *
  obtain ⟨b, hb⟩ : ∃ b, w.heap.size = b := ⟨_, rfl⟩
  obtain ⟨B, hBB⟩ : ∃ B, w.heap.size + 1 = B := ⟨_, rfl⟩
  rw [hBB] at hB ⊢
  rw [hb] at hc ⊢
  have hne : b ≠ B := by omega
  have k0 : w1.cell? ⟨B, 0, none⟩ = some (.int .u8 0) := hB.cell 0
  have k1 : w1.cell? ⟨B, 1, none⟩ = some (.int .u8 0) := hB.cell 1
  have k2 : w1.cell? ⟨B, 2, none⟩ = some (.int .u8 0) := hB.cell 2
  have f0 : w1.frozen? ⟨B, 0, none⟩ = false := hB.free 0
  have f1 : w1.frozen? ⟨B, 1, none⟩ = false := hB.free 1
  have f2 : w1.frozen? ⟨B, 2, none⟩ = false := hB.free 2
  have o0 : Only (fun g => g = B) w1 w1 := Only.refl _ _
  have o1 : Only (fun g => g = B) w1 (w1.setCell ⟨B, 0, none⟩ (.int .u8 2)) := o0.setCell (p := ⟨B, 0, none⟩) (.inl rfl) _
  have o2 : Only (fun g => g = B) w1 ((w1.setCell ⟨B, 0, none⟩ (.int .u8 2)).setCell ⟨B, 1, none⟩ (.int .u8 p)) := o1.setCell (p := ⟨B, 1, none⟩) (.inl rfl) _
  have HO := Lib.hid (And.intro o0.drew (And.intro o1.drew o2.drew))
  have SS := Lib.hid (fun w' (ho : Only (fun g => g = B) w1 w') => show w'.cell? ⟨b, 0, none⟩ = some (.int .i64 p) ∧ w'.cell? ⟨b, 1, none⟩ = some (.int .i64 c) from ⟨(hc.only ho fun e => hne e).cell 0, (hc.only ho fun e => hne e).cell 1⟩)
  have HF := Lib.hid (show Only (fun g => g = B) w1 (((w1.setCell ⟨B, 0, none⟩ (.int .u8 2)).setCell ⟨B, 1, none⟩ (.int .u8 p)).setCell ⟨B, 2, none⟩ (.int .u8 c)).drew ∧ CsPost w p c (.returned (.tuple #[.slice (some ⟨B, 0, none⟩) 26 26, .int .i64 0])) (((w1.setCell ⟨B, 0, none⟩ (.int .u8 2)).setCell ⟨B, 1, none⟩ (.int .u8 p)).setCell ⟨B, 2, none⟩ (.int .u8 c)).drew from by
   have ho : Only (fun g => g = B) w1 (((w1.setCell ⟨B, 0, none⟩ (.int .u8 2)).setCell ⟨B, 1, none⟩ (.int .u8 p)).setCell ⟨B, 2, none⟩ (.int .u8 c)).drew := (o2.setCell (p := ⟨B, 2, none⟩) (.inl rfl) _).drew
   refine ⟨ho, ?_⟩
   unfold CsPost
   rw [if_pos HM.out]
   have hc3 := ((hB.setCell 0 (.int .u8 2)).setCell 1 (.int .u8 p)).setCell 2 (.int .u8 c)
   have hlt := hc3.lt
   have hl : (((bc (List.replicate 26 0)).set 0 (.int .u8 2)).set 1 (.int .u8 p)).set 2 (.int .u8 c) = bc (stubB p c) := rfl
   rw [hl] at hc3
   obtain ⟨t, ht⟩ := hc3
   refine ⟨_, rfl, Vec.drew (vec_block (size := 1) (n := 26) ht rfl (by decide)), hs.andThen ho fun g hg e => by omega, fun g hg => ?_⟩
   have e : B = g := Option.some.inj hg
   rw [← e]
   exact ⟨by omega, hlt⟩)
  clear hc hB hs o0 o1 o2
  go_region_held3 (fun w' => w'.cell? ⟨b, 0, none⟩ = some (.int .i64 p) ∧ w'.cell? ⟨b, 1, none⟩ = some (.int .i64 c)) (first | exact SS.out _ HO.out.1 | exact SS.out _ HO.out.2.1 | exact SS.out _ HO.out.2.2 | exact SS.out _ HF.out.1) (fail)
  have F := Lib.hid HF.out.2
  clear HF
  go_wp2_with fail
  go_ret2
  exact F.out
end Go.Proofs.YtlcfoeikamkpmaaGreat

namespace Go.Proofs.YtlcfoeikamkpmaaGreat
open Go.RowKit Go.Wh Go.Maps

set_option maxHeartbeats 1000000 in
set_option maxRecDepth 100000 in
theorem part_any {Q : Nat → Prop} (w : World) (v : Value) (l : List Int) (h : Sl w Q 1 v 26 (bc l)) (hc : Cap 26 v) (hb : Byt l) (i most : Nat) (hi : i + 1 + most ≤ 26) :
 Calls Tryz.prog 144 #[v, .int .i64 (i : Int), .int .i64 (most : Int)] w (SamePost w (.string (strOfNums (partT l i most)))) := by
 have hln : l.length = 26 := by have := h.1; rw [bc_length] at this; omega
 obtain ⟨x, hx⟩ : ∃ x, l[i]? = some x := ⟨_, List.getElem?_eq_getElem (by omega)⟩
 have hx2 := hb x (List.mem_of_getElem? hx)
 obtain ⟨M, hM⟩ : ∃ M : Nat, min x (most : Int) = (M : Int) := ⟨(min x (most : Int)).toNat, by omega⟩
 have hMm : M ≤ most := by omega
 obtain ⟨pv, r1, -, -, -, hp⟩ := h.part (P := Tryz.prog) (size := 1) 22 Tryz.underlying22 (fun w => rfl) hc (show i + 1 ≤ i + 1 + M by omega) (show i + 1 + M ≤ 26 by omega)
 have hp' := hp w Q h
 have e1 : ((bc l).drop ((i + 1) * 1)).take ((i + 1 + M - (i + 1)) * 1) = bc (partT l i most) := by
  unfold bc partT
  rw [Nat.mul_one, Nat.mul_one, List.map_take, List.map_drop, List.getD_eq_getElem?_getD, hx]
  congr 1
  show i + 1 + M - (i + 1) = min x.toNat most
  omega
 rw [e1] at hp'
 have q1 := convB hp'
 obtain ⟨a, c, rfl⟩ := h.form
 obtain ⟨pa, pc, rfl⟩ := hp'.form
 obtain ⟨g, o, c', e, -, -, hcs⟩ := h.pos (by omega)
 cases e
 have p0 : w.cell? ⟨g, o + i, none⟩ = some (.int .u8 x) := hcs i _ (bc_get hx)
 have i0 : (0 : Int) ≤ (i : Int) := by omega
 have i1 : (i : Int) < 26 := by omega
 obtain ⟨lo, hlo⟩ : ∃ lo : Nat, i + 1 = lo := ⟨_, rfl⟩
 obtain ⟨hh, hhi⟩ : ∃ hh : Nat, lo + M = hh := ⟨_, rfl⟩
 have a1 : (i : Int) + 1 = (lo : Int) := by omega
 have a2 : (lo : Int) + (M : Int) = (hh : Int) := by omega
 have u1 : IntKind.i64.wrap (lo : Int) = (lo : Int) := IntWalk.i64_in _ (by omega)
 have u2 : IntKind.i64.wrap (hh : Int) = (hh : Int) := IntWalk.i64_in _ (by omega)
 have wx : wrap64 x = x := IntWalk.wrap64_in x ⟨by omega, by omega⟩
 have wx2 : IntKind.i64.wrap x = x := IntWalk.i64_in _ (by omega)
 have hx0 := hx2.1
 have hx3 := hx2.2
 rw [hlo, hhi] at r1
 rw [hlo, hhi] at q1
 have F := Lib.hid (show SamePost w (.string (strOfNums (partT l i most))) (.returned (.string (strOfNums (partT l i most)))) w from ⟨rfl, rfl⟩)
 obtain ⟨n, hn⟩ : ∃ n, hh - lo = n := ⟨_, rfl⟩
 rw [hn] at r1
 rw [hn] at q1
 clear h hc hp hp' e1 hcs hx hln hb hlo hhi hn hMm hi hx2
 generalize strOfNums (partT l i most) = s at *
 go_enter Tryz.func144, Tryz.ntmps144
 go_wp2_with fail
 go_ret
 exact F.out
end Go.Proofs.YtlcfoeikamkpmaaGreat
