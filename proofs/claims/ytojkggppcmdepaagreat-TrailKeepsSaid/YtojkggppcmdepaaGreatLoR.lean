/- A disk that is armed; a trail whose entries are all stable. Conditions: they lie in memory. TrailTwice answers true. Conditions: a slice of bytes that lies in memory. TrailTwice answers true. Conditions: a slice of bytes that lies in memory. -/
import Derived.Test.YtojkggppcmdepaaGreatTrBg
import Derived.Test.YtojkggppcmdepaaGreatSome
namespace Go.Proofs.YtojkggppcmdepaaGreat
open Go.RowKit Go.Wh Go.Maps

set_option maxHeartbeats 2000000 in
set_option maxRecDepth 100000 in
theorem force_same {B : Nat → Prop} {w : World} {t d at_ n st : Nat} {es : List PE} (h : TlX B t d at_ n es st w) (hs : st = es.length) :
    Calls Tryz.prog 19 #[.pointer (some ⟨t, 0, none⟩)] w (StPost w (.int .i64 0)) := by
  obtain ⟨sv, h1, h2, h3⟩ := h.tl
  have c4 : w.cell? ⟨t, 4, none⟩ = some (.int .i64 es.length) := h1.cells.cell 4
  have c5 : w.cell? ⟨t, 5, none⟩ = some (.int .i64 st) := h1.cells.cell 5
  have hq : ((st : Int) == (es.length : Int)) = true := by rw [hs]; simp
  have F := Lib.hid (fun w' (k : Still w w') => show StPost w (.int .i64 0) (.returned (.int .i64 0)) w' from ⟨rfl, k⟩)
  clear h h1 h2 h3 hs
  generalize es.length = L at *
  go_enter Tryz.func19, Tryz.ntmps19
  go_wp2_with fail
  go_quiet (fail)
  go_wp2_with fail
  go_ret
  exact F.out _ ((Still.refl w).drewN _)
theorem dead_c {w : World} {d : Nat} (c0 : w.cell? ⟨d, 2, none⟩ = some (.bool false)) :
    Calls Tryz.prog 27 #[.pointer (some ⟨d, 0, none⟩)] w (SamePost w (.bool false)) := by
  go_enter Tryz.func27, Tryz.ntmps27
  go_wp2_with fail
  go_ret
  exact ⟨rfl, rfl⟩
/-- What Arm leaves. -/
def ArmPost (w : World) (d : Nat) (en : Ending) (w' : World) : Prop := en = .returned (.tuple #[]) ∧ Only (fun b => b = d) w w' ∧ w'.cell? ⟨d, 2, none⟩ = some (.bool false)
set_option maxHeartbeats 2000000 in
set_option maxRecDepth 100000 in
theorem arm_zero {w : World} {d mb : Nat} {tv : Value} (h : cellsAt w d [tv, .map (some mb), .bool false, .pointer none]) :
    Calls Tryz.prog 23 #[.pointer (some ⟨d, 0, none⟩), .int .i64 0, .slice none 0 0] w (ArmPost w d) := by
  have H := Lib.hid h
  have c3 : w.cell? ⟨d, 3, none⟩ = some (.pointer none) := h.cell 3
  have f3 := h.free 3
  have HCL := Lib.hid (fun w' => clone_b (.slice none 0 0) 0 [] w' ⟨rfl, .inl ⟨rfl, rfl⟩⟩ (fun u hu => by cases hu) (by decide))
  clear h
  go_enter Tryz.func23, Tryz.ntmps23
  go_wp2_with fail
  refine (HCL.out _).mono ?_
  rintro en w2 ⟨v, rfl, hv, hb, hg⟩
  have o1 : Only (fun b => b = d) w (w.setCell ⟨d, 3, none⟩ (.pointer none)) := (Only.refl (fun b => b = d) w).setCell (p := ⟨d, 3, none⟩) (.inl rfl) _
  have o2 : Only (fun b => b = d) w w2 := o1.trans (Only.mono (Still.of hb) fun _ e => e.elim)
  have k2 : cellsAt w2 d [tv, .map (some mb), .bool false, .pointer none] := (H.out.setCell 3 (.pointer none)).only (Still.of hb) (fun e => e)
  obtain ⟨a, c, rfl⟩ := hv.form'
  have g3 : (w2.alloc (.cells #[.int .i64 0, .slice a 0 c] 94)).cell? ⟨d, 3, none⟩ = some (.pointer none) := (k2.alloc _).cell 3
  have g3f : (w2.alloc (.cells #[.int .i64 0, .slice a 0 c] 94)).frozen? ⟨d, 3, none⟩ = false := (k2.alloc _).free 3
  have F := Lib.hid (fun p ob => show ArmPost w d (.returned (.tuple #[])) ((w2.alloc ob).setCell ⟨d, 3, none⟩ p) from ⟨rfl, (o2.alloc ob).setCell (p := ⟨d, 3, none⟩) (.inl rfl) _, ((k2.alloc ob).setCell 3 p).cell 2⟩)
  clear o1 o2 k2 hv hb hg c3 f3 HCL
  go_wp2_with fail
  go_end0
  exact F.out _ _
end Go.Proofs.YtojkggppcmdepaaGreat

namespace Go.Proofs.YtojkggppcmdepaaGreat
open Go.RowKit Go.Wh Go.Maps

theorem someE_may {i : Nat} {z : Int} (hi : i < 1000) : (someE i z).may = true := by
  have hn : (someE i z).new.length = 26 := someE_new i z
  unfold someE at hn ⊢
  unfold PE.may
  have p1 : (256 : Int) ^ 1 = 256 := rfl
  have p3 : (256 : Int) ^ 3 = 16777216 := rfl
  have hI : imgB (rowB (keyS z) ⟨#[115]⟩ ⟨#[]⟩) = true := by
    unfold imgB
    rw [hn]
    rfl
  simp only [Bool.and_eq_true, fitsB_cons, decide_eq_true_eq, p1, p3, hI]
  refine ⟨⟨⟨⟨⟨⟨⟨⟨⟨⟨⟨⟨?_, ?_⟩, ⟨?_, ?_⟩⟩, ?_⟩, ?_⟩, ?_⟩, ?_⟩, ?_⟩, ?_⟩, ?_⟩, ?_⟩, ?_⟩, ?_⟩
  all_goals first | omega | exact trivial | exact ⟨⟨by omega, by omega⟩, rfl⟩ | exact ⟨⟨by omega, by omega⟩, ⟨by omega, by omega⟩, rfl⟩ | exact ⟨by decide, rfl⟩ | with_reducible rfl | rfl
theorem someE_len (i : Nat) (z : Int) : (frameB (someE i z)).length = 51 := by
  rw [frameB_length, encB_short _ rfl rfl rfl rfl, someE_new]
  rfl
theorem someL_mem {L : List Int} {e : PE} (h : e ∈ someL L) : ∃ i z, L[i]? = some z ∧ e = someE i z := by
  obtain ⟨i, hi, rfl⟩ := List.getElem_of_mem h
  unfold someL at hi ⊢
  rw [List.getElem_mapIdx]
  rw [List.length_mapIdx] at hi
  exact ⟨i, L[i], List.getElem?_eq_getElem hi, rfl⟩
theorem someL_may {L : List Int} (hl : L.length ≤ 100) : ∀ e ∈ someL L, e.may = true := fun e he => by
  obtain ⟨i, z, hz, rfl⟩ := someL_mem he
  have hi := (List.getElem?_eq_some_iff.1 hz).1
  exact someE_may (by omega)
theorem stream_51 : ∀ {l : List PE}, (∀ e ∈ l, (frameB e).length = 51) → (streamB l).length = 51 * l.length
  | [], _ => rfl
  | e :: l, h => by
    have : streamB (e :: l) = frameB e ++ streamB l := rfl
    rw [this, List.length_append, h e (by simp), stream_51 fun x hx => h x (by simp [hx]), List.length_cons]
    omega
theorem someL_51 (L : List Int) : ∀ e ∈ someL L, (frameB e).length = 51 := fun e he => by
  obtain ⟨i, z, -, rfl⟩ := someL_mem he
  exact someE_len i z
end Go.Proofs.YtojkggppcmdepaaGreat

namespace Go.Proofs.YtojkggppcmdepaaGreat
open Go.RowKit Go.Wh Go.Maps

/-- What stands at the head of a round: the first i entries are noted. -/
structure LoRel (W : World) (A : Nat → Prop) (d t at_ n : Nat) (T : List (List Int)) (C : Nat → Prop) (lv : Value) (es : List PE) (i : Nat) (wr : World) : Prop where
  ex : ∃ B : Nat → Prop, TlX B t d at_ n (es.take i) 0 wr ∧ (∀ g, B g → W.heap.size ≤ g) ∧ (∀ g, A g → ¬ B g) ∧ ∀ g, C g → ¬ B g
  dk : DkX A d T wr
  en : Ents wr C lv es
  cl : ∀ g, C g → g < wr.heap.size
  st : Still W wr
theorem LoRel.next {W w w' : World} {A B C : Nat → Prop} {d t at_ n i : Nat} {T : List (List Int)} {lv : Value} {es : List PE} {e : PE} (hd : DkX A d T w) (hen : Ents w C lv es) (hcl : ∀ g, C g → g < w.heap.size) (hs : Still W w) (hB : ∀ g, B g → W.heap.size ≤ g) (hA : ∀ g, A g → ¬ B g) (hC : ∀ g, C g → ¬ B g)
    (he : es[i]? = some e) (ht : TlX (Newer B w w') t d at_ n (es.take i ++ [e]) 0 w') (ho : Only B w w') : LoRel W A d t at_ n T C lv es (i + 1) w' := by
  have hz := hs.size
  obtain ⟨hl, rfl⟩ := List.getElem?_eq_some_iff.1 he
  rw [List.take_append_getElem hl] at ht
  exact ⟨⟨_, ht, fun g hg => hg.elim (hB g) fun e => by omega, fun g hg e => e.elim (hA g hg) fun e => by have := hd.lt g hg; omega, fun g hg e => e.elim (hC g hg) fun e => by have := hcl g hg; omega⟩, hd.only ho fun g hg e => hA g hg e, hen.only ho fun g hg e => hC g hg e, fun g hg => Nat.lt_of_lt_of_le (hcl g hg) ho.size, still_of hs ho hB⟩
/-- The cells of an entry of some. -/
theorem Ents.at {w : World} {C : Nat → Prop} {a : Option Addr} {n c i : Nat} {es : List PE} {e : PE} (h : Ents w C (.slice a n c) es) (he : es[i]? = some e) :
    ∃ g o oa oc na nc ma mc ka kc da dc va vc, a = some ⟨g, o, none⟩ ∧ n = es.length ∧ EIs w C e (.slice oa e.old.length oc) (.slice na e.new.length nc) (.slice ma e.moves.length mc) (.slice ka e.lives.length kc) (.slice da e.dirty.length dc) (.slice va e.opens.length vc) ∧
      ∀ j u, j < 16 → (eV e (.slice oa e.old.length oc) (.slice na e.new.length nc) (.slice ma e.moves.length mc) (.slice ka e.lives.length kc) (.slice da e.dirty.length dc) (.slice va e.opens.length vc)).toList[j]? = some u → w.cell? ⟨g, o + (i * 16 + j), none⟩ = some u := by
  obtain ⟨vs, hv1, hv2⟩ := h
  have hi := (List.getElem?_eq_some_iff.1 he).1
  obtain ⟨g, o, c', e', -, -, hcs⟩ := hv2.pos (by omega)
  obtain ⟨ov, nv, mv, lv, dv, pv, h1, h2⟩ := hv1.2 i e (vs[i]'(by rw [hv1.1]; exact hi)) he (List.getElem?_eq_getElem _)
  obtain ⟨oa, oc, na, nc, ma, mc, la, lc, da, dc, xa, xc, rfl, rfl, rfl, rfl, rfl, rfl⟩ := h2.forms
  injection e' with e1 e2 e3
  refine ⟨g, o, _, _, _, _, _, _, _, _, _, _, _, _, e1, e2, h2, fun j u hj hu => hcs _ _ ?_⟩
  rw [flatten_get vs i j _ hv1.sizes (List.getElem?_eq_getElem (by rw [hv1.1]; exact hi)) hj, h1]
  exact hu
end Go.Proofs.YtojkggppcmdepaaGreat
