/- A map in memory as a function from its keys to its elements: looked up, laid into, cut, gone through. Conditions: the key's type is one of which the kit knows 'Keyed'. Trail: bytes, sums, tiles: plain. No program. No conditions. The library's Clone of bytes; the disk in memory; its small calls: Tiles, Dead, may, Read. Conditions: they lie in memory. A region that draws its order, whose last stores wait for all that was loaded: the loads are taken first under a condition that need not outlive those stores. No conditions. -/
import Derived.Test.YtlcfoeikamkpmaaGreatPq02
import Derived.Maps.RangeWalk
import Derived.WalkKit
import Derived.Test.YtlcfoeikamkpmaaGreatRows
import Derived.WalkSpells
import Derived.WalkLawsBesides
import Derived.Deep.QuietTactic
import Derived.BigQuiet
import Derived.StillTailTactics
import Derived.Deep.RegionLaw
import Derived.Lib.Walk
import Derived.Lib.Hide
import Derived.Deep.RegionHeld3
namespace Go.Wh
open Go.ChangeMaps (setBlock heap_setBlock_same heap_setBlock_other)
open Go.MapKept Go.RowKit
open Go.Maps (Keyed)

def upd {α β : Type} [DecidableEq α] (V : α → β) (a : α) (v : β) : α → β := fun x => if x = a then v else V x
theorem upd_same {α β : Type} [DecidableEq α] (V : α → β) (a : α) (v : β) : upd V a v a = v := by simp [upd]
theorem upd_other {α β : Type} [DecidableEq α] (V : α → β) {a x : α} (v : β) (h : x ≠ a) : upd V a v x = V x := by simp [upd, h]

section
variable {P : Program} {k : TypeId} {α : Type} {E : α → Value} {w : World} {b : Nat} {V : α → Option Value}

def kmap (w : World) (P : Program) (k : TypeId) (E : α → Value) (b : Nat) (V : α → Option Value) : Prop :=
 ∃ es clock, w.heap[b]? = some (.map es clock) ∧ Stamped es clock ∧ (∀ x ∈ es.toList, ∃ l, keyOf P k x.key = some l) ∧ (∀ x ∈ es.toList, ∃ a, x.key = E a) ∧
  ∀ a v, V a = some v ↔ ∃ x ∈ es.toList, x.key = E a ∧ x.val = v

theorem kmap.lt (h : kmap w P k E b V) : b < w.heap.size := by
 obtain ⟨es, clock, hb, _⟩ := h
 exact (Array.getElem?_eq_some_iff.1 hb).1

theorem kmap_made (w : World) (P : Program) (k : TypeId) (E : α → Value) : kmap (w.alloc (.map #[] 0)) P k E w.heap.size (fun _ => none) :=
 ⟨#[], 0, (MapKept.heap_alloc w _).1, stamped_empty 0, by simp, by simp, by simp⟩

theorem kmap.block {w' : World} (h : kmap w P k E b V) (hg : w'.heap[b]? = w.heap[b]?) : kmap w' P k E b V := by
 obtain ⟨es, clock, hb, r⟩ := h
 exact ⟨es, clock, hg.trans hb, r⟩

theorem kmap.kept {w' : World} {row : Option Nat} (h : kmap w P k E b V) (hg : w.grownBy w' row) (hne : some b ≠ row) : kmap w' P k E b V :=
 h.block (hg.block b h.lt hne)

theorem kmap.ext {V' : α → Option Value} (h : kmap w P k E b V) (hv : ∀ a, V a = V' a) : kmap w P k E b V' := by
 have : V = V' := funext hv
 rw [← this]
 exact h

theorem key_unique {es : Array MapEntry} {clock : Nat} (hst : Stamped es clock) {x y : MapEntry} (hx : x ∈ es.toList) (hy : y ∈ es.toList) (h : x.key = y.key) : x = y :=
 entry_eq_of_key ((stamped_iff es clock).1 hst).2.2 hx hy h

theorem kmap.lookup {t e : TypeId} (h : kmap w P k E b V) (K : Keyed P k) (ht : P.underlying t = some (.map k e)) {a : α} {l : Lit} (hkey : keyOf P k (E a) = some l) {z : Value} (hz : (zeroValue e).run P w = .ok z w) (c : Bool) :
 (Instr.lookup t (.map (some b)) (E a) c).run P w = .ok (if c then .tuple #[(V a).getD z, .bool (V a).isSome] else (V a).getD z) w := by
 obtain ⟨es, clock, hb, hst, hks, hE, hV⟩ := h
 rcases K.find w hkey es.toList hks with ⟨h1, h2⟩ | ⟨j, e0, h1, h2, h3⟩
 · have hn : V a = none := by
    cases hva : V a with
    | none => rfl
    | some v =>
     obtain ⟨x, hx, hxk, _⟩ := (hV a v).1 hva
     exact absurd hxk (h2 x hx)
   simp [Instr.lookup, run_underlying ht, MapKept.run_getObj_map hb, K.check w _ hkey, h1, hz, Result.andThen, hn]
 · have hs : V a = some e0.val := (hV a e0.val).2 ⟨e0, List.mem_of_getElem? h2, h3, rfl⟩
   simp [Instr.lookup, run_underlying ht, MapKept.run_getObj_map hb, K.check w _ hkey, h1, Result.andThen, hs]

theorem kmap.update [DecidableEq α] {t e : TypeId} (h : kmap w P k E b V) (K : Keyed P k) (hE : ∀ x y, E x = E y → x = y) (ht : P.underlying t = some (.map k e)) {a : α} {l : Lit} (hkey : keyOf P k (E a) = some l) (val : Value) :
 ∃ w', (Instr.mapUpdate t (.map (some b)) (E a) val).run P w = .ok () w' ∧ kmap w' P k E b (upd V a (some val)) ∧ w.grownBy w' (some b) ∧ w'.heap.size = w.heap.size := by
 obtain ⟨es, clock, hb, hst, hks, hEs, hV⟩ := h
 have hgrow : ∀ es' clock', w.grownBy (setBlock w b (.map es' clock')) (some b) := fun es' clock' =>
  ⟨rfl, rfl, rfl, by simp [setBlock], fun i _ hi => heap_setBlock_other hb _ (fun e => hi (by rw [e]))⟩
 rcases K.find w hkey es.toList hks with ⟨h1, h2⟩ | ⟨j, e0, h1, h2, h3⟩
 · refine ⟨setBlock w b (.map (es.push ⟨E a, val, clock⟩) (clock + 1)), ?_, ⟨es.push ⟨E a, val, clock⟩, clock + 1, heap_setBlock_same hb _, stamped_push hst h2, ?_, ?_, ?_⟩, hgrow _ _, by simp [setBlock]⟩
   · simp [Instr.mapUpdate, run_underlying ht, MapKept.run_getObj_map hb, K.check w false hkey, h1, MapKept.run_setObj_map _ hb, Result.andThen, setBlock]
   · intro x hx
     simp only [Array.toList_push, List.mem_append, List.mem_singleton] at hx
     rcases hx with hx | rfl
     · exact hks x hx
     · exact ⟨l, hkey⟩
   · intro x hx
     simp only [Array.toList_push, List.mem_append, List.mem_singleton] at hx
     rcases hx with hx | rfl
     · exact hEs x hx
     · exact ⟨a, rfl⟩
   · intro x v
     simp only [Array.toList_push, List.mem_append, List.mem_singleton]
     by_cases hxa : x = a
     · subst hxa
       simp only [upd_same]
       constructor
       · intro hv
         exact ⟨_, .inr rfl, rfl, by simpa using hv⟩
       · rintro ⟨y, hy | rfl, hyk, rfl⟩
         · exact absurd hyk (h2 y hy)
         · rfl
     · rw [upd_other V _ hxa]
       rw [hV x v]
       constructor
       · rintro ⟨y, hy, r⟩
         exact ⟨y, .inl hy, r⟩
       · rintro ⟨y, hy | rfl, hyk, hyv⟩
         · exact ⟨y, hy, hyk, hyv⟩
         · exact absurd (hE _ _ hyk).symm hxa
 · have hj : es[j]? = some e0 := by simpa using h2
   have hjl : j < es.size := (Array.getElem?_eq_some_iff.1 hj).1
   have hkeep : (Instr.keyThatStays (((es[j]?).map (·.key)).getD (E a)) (E a)).run P w = .ok (E a) w := by
    rw [hj]
    show (Instr.keyThatStays e0.key (E a)).run P w = _
    rw [h3]
    exact K.stays w hkey
   have hmod : ∀ x, x ∈ (es.modify j fun e => { e with key := E a, val := val }).toList ↔ (x ∈ es.toList ∧ x.key ≠ E a) ∨ x = { e0 with key := E a, val := val } := by
    intro x
    rw [show (es.modify j fun e => { e with key := E a, val := val }).toList = es.toList.set j { e0 with key := E a, val := val } from by
     apply List.ext_getElem?
     intro i
     rw [Array.getElem?_toList, Array.getElem?_modify, List.getElem?_set, Array.getElem?_toList]
     by_cases hij : j = i
     · subst hij
       simp [hjl, (Array.getElem?_eq_some_iff.1 hj).2]
     · simp [hij]]
    constructor
    · intro hx
      obtain ⟨i, hi⟩ := List.getElem?_of_mem hx
      rw [List.getElem?_set] at hi
      by_cases hij : j = i
      · subst hij
        simp [hjl] at hi
        exact .inr hi.symm
      · rw [if_neg hij] at hi
        refine .inl ⟨List.mem_of_getElem? hi, fun hk => ?_⟩
        have hxe : x = e0 := key_unique hst (List.mem_of_getElem? hi) (List.mem_of_getElem? h2) (hk.trans h3.symm)
        subst hxe
        have hn := ((stamped_iff es clock).1 hst).2.1
        obtain ⟨hi1, hi2⟩ := List.getElem?_eq_some_iff.1 hi
        obtain ⟨hj1, hj2⟩ := List.getElem?_eq_some_iff.1 h2
        have hb1 : (es.toList.map (·.born))[j]'(by simpa using hj1) = (es.toList.map (·.born))[i]'(by simpa using hi1) := by
         rw [List.getElem_map, List.getElem_map, hi2, hj2]
        exact hij ((List.getElem_inj hn).1 hb1)
    · rintro (⟨hx, hk⟩ | rfl)
      · obtain ⟨i, hi⟩ := List.getElem?_of_mem hx
        refine List.mem_of_getElem? (i := i) ?_
        rw [List.getElem?_set]
        by_cases hij : j = i
        · subst hij
          rw [h2] at hi
          cases hi
          exact absurd h3 hk
        · rw [if_neg hij]
          exact hi
      · refine List.mem_of_getElem? (i := j) ?_
        rw [List.getElem?_set]
        simp [hjl]
   refine ⟨setBlock w b (.map (es.modify j fun e => { e with key := E a, val := val }) clock), ?_, ⟨_, clock, heap_setBlock_same hb _, ?_, ?_, ?_, ?_⟩, hgrow _ _, by simp [setBlock]⟩
   · simp [Instr.mapUpdate, run_underlying ht, MapKept.run_getObj_map hb, K.check w false hkey, h1, hkeep, MapKept.run_setObj_map _ hb, Result.andThen, setBlock]
   · exact stamped_modify hst j _ (fun _ _ => rfl) (fun e he hje => by
      rw [hj] at hje
      cases hje
      exact h3.symm)
   · intro x hx
     rcases (hmod x).1 hx with ⟨hx, _⟩ | rfl
     · exact hks x hx
     · exact ⟨l, hkey⟩
   · intro x hx
     rcases (hmod x).1 hx with ⟨hx, _⟩ | rfl
     · exact hEs x hx
     · exact ⟨a, rfl⟩
   · intro x v
     by_cases hxa : x = a
     · subst hxa
       simp only [upd_same]
       constructor
       · intro hv
         exact ⟨_, (hmod _).2 (.inr rfl), rfl, by simpa using hv⟩
       · rintro ⟨y, hy, hyk, rfl⟩
         rcases (hmod y).1 hy with ⟨_, hk⟩ | rfl
         · exact absurd hyk hk
         · rfl
     · rw [upd_other V _ hxa]
       rw [hV x v]
       constructor
       · rintro ⟨y, hy, hyk, hyv⟩
         exact ⟨y, (hmod y).2 (.inl ⟨hy, fun hk => hxa (hE _ _ (hyk.symm.trans hk))⟩), hyk, hyv⟩
       · rintro ⟨y, hy, hyk, hyv⟩
         rcases (hmod y).1 hy with ⟨hy, _⟩ | rfl
         · exact ⟨y, hy, hyk, hyv⟩
         · exact absurd (hE _ _ hyk).symm hxa

theorem drop_who {t e ty : TypeId} {es : Array MapEntry} {clock : Nat} (K : Keyed P k) (ht : P.underlying t = some (.map k e)) (hb : w.heap[b]? = some (.map es clock)) (hst : Stamped es clock) (hks : ∀ x ∈ es.toList, ∃ l, keyOf P k x.key = some l) {key : Value} {kl : Lit} (hkey : keyOf P k key = some kl) :
 ∃ es', (Builtin.delete_ #[t, k] ty #[.map (some b), key]).run P w = .ok (.tuple #[]) (setBlock w b (.map es' clock)) ∧ Stamped es' clock ∧ es'.toList.Sublist es.toList ∧ ∀ x, x ∈ es'.toList ↔ (x ∈ es.toList ∧ x.key ≠ key) := by
 rcases K.find w hkey es.toList hks with ⟨h1, h2⟩ | ⟨j, e0, h1, h2, h3⟩
 · refine ⟨es, ?_, hst, List.Sublist.refl _, fun x => ⟨fun hx => ⟨hx, h2 x hx⟩, fun hx => hx.1⟩⟩
   simp [Builtin.delete_, run_underlying ht, MapKept.run_getObj_map hb, K.check w _ hkey, h1, MapKept.run_setObj_map _ hb, Result.andThen, setBlock]
 · have hjl : j < es.toList.length := (List.getElem?_eq_some_iff.1 h2).1
   have hjs : j < es.size := by simpa using hjl
   have hsub : (es.eraseIdxIfInBounds j).toList = es.toList.eraseIdx j := by
    unfold Array.eraseIdxIfInBounds
    rw [dif_pos hjs]
    simp
   refine ⟨es.eraseIdxIfInBounds j, ?_, stamped_erase hst j, by rw [hsub]; exact List.eraseIdx_sublist _ _, fun x => ?_⟩
   · simp [Builtin.delete_, run_underlying ht, MapKept.run_getObj_map hb, K.check w _ hkey, h1, MapKept.run_setObj_map _ hb, Result.andThen, setBlock]
   · rw [hsub, List.mem_eraseIdx_iff_getElem?]
     constructor
     · rintro ⟨i, hne, hi⟩
       refine ⟨List.mem_of_getElem? hi, fun hk => ?_⟩
       have hxe : x = e0 := key_unique hst (List.mem_of_getElem? hi) (List.mem_of_getElem? h2) (hk.trans h3.symm)
       subst hxe
       have hn := ((stamped_iff es clock).1 hst).2.1
       obtain ⟨hi1, hi2⟩ := List.getElem?_eq_some_iff.1 hi
       obtain ⟨hj1, hj2⟩ := List.getElem?_eq_some_iff.1 h2
       have hb1 : (es.toList.map (·.born))[i]'(by simpa using hi1) = (es.toList.map (·.born))[j]'(by simpa using hj1) := by
        rw [List.getElem_map, List.getElem_map, hi2, hj2]
       exact hne ((List.getElem_inj hn).1 hb1)
     · rintro ⟨hx, hne⟩
       obtain ⟨i, hi⟩ := List.getElem?_of_mem hx
       refine ⟨i, fun e1 => hne ?_, hi⟩
       rw [e1, h2] at hi
       cases hi
       exact h3

theorem kmap.delete [DecidableEq α] {t e ty : TypeId} (h : kmap w P k E b V) (K : Keyed P k) (hE : ∀ x y, E x = E y → x = y) (ht : P.underlying t = some (.map k e)) {a : α} {l : Lit} (hkey : keyOf P k (E a) = some l) :
 ∃ w', (Builtin.delete_ #[t, k] ty #[.map (some b), E a]).run P w = .ok (.tuple #[]) w' ∧ kmap w' P k E b (upd V a none) ∧ w.grownBy w' (some b) ∧ w'.heap.size = w.heap.size := by
 obtain ⟨es, clock, hb, hst, hks, hEs, hV⟩ := h
 obtain ⟨es', hrun, hst', _, hwho⟩ := drop_who (ty := ty) K ht hb hst hks hkey
 refine ⟨_, hrun, ⟨es', clock, heap_setBlock_same hb _, hst', fun x hx => hks x ((hwho x).1 hx).1, fun x hx => hEs x ((hwho x).1 hx).1, fun x v => ?_⟩,
  ⟨rfl, rfl, rfl, by simp [setBlock], fun i _ hi => heap_setBlock_other hb _ (fun e => hi (by rw [e]))⟩, by simp [setBlock]⟩
 by_cases hxa : x = a
 · subst hxa
   simp only [upd_same]
   constructor
   · intro h; cases h
   · rintro ⟨y, hy, hyk, _⟩
     exact absurd hyk ((hwho y).1 hy).2
 · rw [upd_other V _ hxa]
   rw [hV x v]
   constructor
   · rintro ⟨y, hy, hyk, hyv⟩
     exact ⟨y, (hwho y).2 ⟨hy, fun hk => hxa (hE _ _ (hyk.symm.trans hk))⟩, hyk, hyv⟩
   · rintro ⟨y, hy, hyk, hyv⟩
     exact ⟨y, ((hwho y).1 hy).1, hyk, hyv⟩

/-! Going through a map. -/

def kranges (w : World) (P : Program) (k : TypeId) (E : α → Value) (b r : Nat) (V : α → Option Value) (left : α → Prop) (cnt : Nat) : Prop :=
 ∃ es clock since seen c0, w.heap[b]? = some (.map es clock) ∧ Stamped es clock ∧ (∀ x ∈ es.toList, ∃ l, keyOf P k x.key = some l) ∧ (∀ x ∈ es.toList, ∃ a, x.key = E a) ∧
  (∀ a v, V a = some v ↔ ∃ x ∈ es.toList, x.key = E a ∧ x.val = v) ∧
  w.heap[r]? = some (.mapIter (some b) since seen c0) ∧ (∀ x ∈ es.toList, x.born < since) ∧ (leftOf es seen).size = cnt ∧
  (∀ a, left a ↔ ∃ x ∈ es.toList, x.key = E a ∧ seen.contains x.born = false) ∧ since ≤ c0 ∧ since ≤ clock

theorem kranges.kmap {r cnt : Nat} {left : α → Prop} (h : kranges w P k E b r V left cnt) : kmap w P k E b V := by
 obtain ⟨es, clock, since, seen, c0, hb, h1, h2, h3, h4, _⟩ := h
 exact ⟨es, clock, hb, h1, h2, h3, h4⟩

theorem kranges.ne {r cnt : Nat} {left : α → Prop} (h : kranges w P k E b r V left cnt) : r ≠ b := by
 obtain ⟨es, clock, since, seen, c0, hb, _, _, _, _, hr, _⟩ := h
 intro e
 rw [e, hb] at hr
 cases hr

theorem kranges.lt {r cnt : Nat} {left : α → Prop} (h : kranges w P k E b r V left cnt) : r < w.heap.size := by
 obtain ⟨es, clock, since, seen, c0, hb, _, _, _, _, hr, _⟩ := h
 exact (Array.getElem?_eq_some_iff.1 hr).1

theorem kranges.left_eq {r cnt : Nat} {left : α → Prop} (h : kranges w P k E b r V left cnt) : w.rangeLeft b r = cnt := by
 obtain ⟨es, clock, since, seen, c0, hb, _, _, _, _, hr, _, hc, _⟩ := h
 simp only [World.rangeLeft, hb, hr]
 exact hc

theorem kranges.kept {w' : World} {row : Option Nat} {r cnt : Nat} {left : α → Prop} (h : kranges w P k E b r V left cnt) (hg : w.grownBy w' row) (hb' : some b ≠ row) (hr' : some r ≠ row) : kranges w' P k E b r V left cnt := by
 have h1 := h.kmap.lt
 have h2 := h.lt
 obtain ⟨es, clock, since, seen, c0, hb, a1, a2, a3, a4, hr, rest⟩ := h
 exact ⟨es, clock, since, seen, c0, (hg.block b h1 hb').trans hb, a1, a2, a3, a4, (hg.block r h2 hr').trans hr, rest⟩

theorem kmap.range {t e : TypeId} (h : kmap w P k E b V) (ht : P.underlying t = some (.map k e)) :
 ∃ w' cnt, (Instr.range t (.map (some b))).run P w = .ok (.pointer (some ⟨w.heap.size, 0, none⟩)) w' ∧ kranges w' P k E b w.heap.size V (fun a => ∃ v, V a = some v) cnt ∧ w.grownBy w' none ∧ w'.heap.size = w.heap.size + 1 := by
 have hlt := h.lt
 obtain ⟨es, clock, hb, hst, hks, hEs, hV⟩ := h
 refine ⟨_, _, run_range_map w t k e b es clock ht hb, ⟨es, clock, clock, #[], clock, ((MapKept.heap_alloc w _).2 b hlt).trans hb, hst, hks, hEs, hV, (MapKept.heap_alloc w _).1, hst.1, rfl, ?_, Nat.le_refl _, Nat.le_refl _⟩, World.grownBy_alloc w _ none, by simp⟩
 intro a
 constructor
 · rintro ⟨v, hv⟩
   obtain ⟨x, hx, hxk, _⟩ := (hV a v).1 hv
   exact ⟨x, hx, hxk, by simp⟩
 · rintro ⟨x, hx, hxk, _⟩
   exact ⟨x.val, (hV a x.val).2 ⟨x, hx, hxk, rfl⟩⟩

theorem kranges.next {r cnt : Nat} {left : α → Prop} (h : kranges w P k E b r V left cnt) (hE : ∀ x y, E x = E y → x = y) (ty : TypeId) :
 (cnt = 0 ∧ (∀ a, ¬ left a) ∧ (Instr.next (.pointer (some ⟨r, 0, none⟩)) false ty).run P w = .ok (.tuple #[.bool false]) w) ∨
 ∃ a v l w' cnt', keyOf P k (E a) = some l ∧ left a ∧ V a = some v ∧ (Instr.next (.pointer (some ⟨r, 0, none⟩)) false ty).run P w = .ok (.tuple #[.bool true, E a, v]) w' ∧
  kranges w' P k E b r V (fun x => left x ∧ x ≠ a) cnt' ∧ cnt' < cnt ∧ w.grownBy w' (some r) ∧ w'.heap.size = w.heap.size ∧ (Instr.entry (.pointer (some ⟨r, 0, none⟩))).run P w' = .ok (.tuple #[E a, v]) w' := by
 have hne := h.ne
 obtain ⟨es, clock, since, seen, c0, hb, hst, hks, hEs, hV, hr, hold, rfl, hl, hsc, hsk⟩ := h
 rcases run_next_at (P := P) w ty r b since c0 seen es clock hr hb hold hsc with ⟨h0, hrun⟩ | ⟨e, he, w1, hal, hrun⟩
 · refine Or.inl ⟨h0, fun a ha => ?_, hrun⟩
   obtain ⟨x, hx, _, hs⟩ := (hl a).1 ha
   rw [all_seen es seen h0 x hx] at hs
   cases hs
 · obtain ⟨hem, hes⟩ := mem_left he
   obtain ⟨a, hea⟩ := hEs e hem
   obtain ⟨l, hkl⟩ := hks e hem
   have hr1 : w1.heap[r]? = some (.mapIter (some b) since seen c0) := by rcases hal with rfl | rfl <;> exact hr
   have hb1 : w1.heap[b]? = some (.map es clock) := by rcases hal with rfl | rfl <;> exact hb
   have hset := heap_set (o' := .mapIter (some b) since (seen.push e.born) clock) hr1
   have hb' : (setBlock w1 r (.mapIter (some b) since (seen.push e.born) clock)).heap[b]? = some (.map es clock) := (hset.2 b (fun e1 => hne e1.symm)).trans hb1
   refine Or.inr ⟨a, e.val, l, _, _, by rw [← hea]; exact hkl, (hl a).2 ⟨e, hem, hea, hes⟩, (hV a e.val).2 ⟨e, hem, hea, rfl⟩, by rw [← hea]; exact hrun,
    ⟨es, clock, since, seen.push e.born, clock, hb', hst, hks, hEs, hV, hset.1, hold, rfl, fun x => ?_, hsk, hsk⟩, left_shrinks es seen e he, ?_, ?_,
    by rw [← hea]; exact run_entry_at _ r b since seen es clock e hset.1 hb' hem ((stamped_iff es clock).1 hst).2.1⟩
   · constructor
     · rintro ⟨hlx, hxa⟩
       obtain ⟨y, hy, hyk, hys⟩ := (hl x).1 hlx
       refine ⟨y, hy, hyk, ?_⟩
       rw [contains_push, hys, Bool.false_or, beq_eq_false_iff_ne]
       intro hbe
       have := born_inj ((stamped_iff es clock).1 hst).2.1 hy hem hbe
       subst this
       exact hxa (hE _ _ (hyk.symm.trans hea))
     · rintro ⟨y, hy, hyk, hys⟩
       rw [contains_push, Bool.or_eq_false_iff, beq_eq_false_iff_ne] at hys
       refine ⟨(hl x).2 ⟨y, hy, hyk, hys.1⟩, fun hxa => hys.2 ?_⟩
       subst hxa
       rw [key_unique hst hy hem (hyk.trans hea.symm)]
   · rcases hal with rfl | rfl <;> exact ⟨rfl, rfl, rfl, by simp [setBlock], fun i _ hi => hset.2 i (fun e1 => hi (by rw [e1]))⟩
   · rcases hal with rfl | rfl <;> simp [setBlock]

theorem leftOf_sub_le {es es' : Array MapEntry} (seen : Array Nat) (h : es'.toList.Sublist es.toList) : (leftOf es' seen).size ≤ (leftOf es seen).size := by
 have h1 : (leftOf es' seen).toList.Sublist (leftOf es seen).toList := by
  unfold leftOf
  rw [Array.toList_filter, Array.toList_filter]
  exact h.filter _
 simpa using h1.length_le

theorem kranges.drop [DecidableEq α] {t e ty : TypeId} {r cnt : Nat} {left : α → Prop} (h : kranges w P k E b r V left cnt) (K : Keyed P k) (hE : ∀ x y, E x = E y → x = y) (ht : P.underlying t = some (.map k e)) {a : α} {l : Lit} (hkey : keyOf P k (E a) = some l) :
 ∃ w' cnt', (Builtin.delete_ #[t, k] ty #[.map (some b), E a]).run P w = .ok (.tuple #[]) w' ∧ kranges w' P k E b r (upd V a none) (fun x => left x ∧ x ≠ a) cnt' ∧ cnt' ≤ cnt ∧ w.grownBy w' (some b) ∧ w'.heap.size = w.heap.size := by
 have hne := h.ne
 obtain ⟨es, clock, since, seen, c0, hb, hst, hks, hEs, hV, hr, hold, rfl, hl, hsc, hsk⟩ := h
 obtain ⟨es', hrun, hst', hsub, hwho⟩ := drop_who (ty := ty) K ht hb hst hks hkey
 refine ⟨_, _, hrun, ⟨es', clock, since, seen, c0, heap_setBlock_same hb _, hst', fun x hx => hks x ((hwho x).1 hx).1, fun x hx => hEs x ((hwho x).1 hx).1, fun x v => ?_,
  (heap_setBlock_other hb _ hne).trans hr, fun x hx => hold x ((hwho x).1 hx).1, rfl, fun x => ?_, hsc, hsk⟩, leftOf_sub_le seen hsub,
  ⟨rfl, rfl, rfl, by simp [setBlock], fun i _ hi => heap_setBlock_other hb _ (fun e => hi (by rw [e]))⟩, by simp [setBlock]⟩
 · by_cases hxa : x = a
   · subst hxa
     simp only [upd_same]
     constructor
     · intro h; cases h
     · rintro ⟨y, hy, hyk, _⟩
       exact absurd hyk ((hwho y).1 hy).2
   · rw [upd_other V _ hxa]
     rw [hV x v]
     constructor
     · rintro ⟨y, hy, hyk, hyv⟩
       exact ⟨y, (hwho y).2 ⟨hy, fun hk => hxa (hE _ _ (hyk.symm.trans hk))⟩, hyk, hyv⟩
     · rintro ⟨y, hy, hyk, hyv⟩
       exact ⟨y, ((hwho y).1 hy).1, hyk, hyv⟩
 · constructor
   · rintro ⟨hlx, hxa⟩
     obtain ⟨y, hy, hyk, hys⟩ := (hl x).1 hlx
     exact ⟨y, (hwho y).2 ⟨hy, fun hk => hxa (hE _ _ (hyk.symm.trans hk))⟩, hyk, hys⟩
   · rintro ⟨y, hy, hyk, hys⟩
     exact ⟨(hl x).2 ⟨y, ((hwho y).1 hy).1, hyk, hys⟩, fun hxa => ((hwho y).1 hy).2 (by rw [hyk, hxa])⟩

/-! At an operation of a walk. -/
section
variable {ops : Array Oper} {rest : List Oper} {o : Oper} {a : Act} {Q : Exit → Act → World → Prop}

theorem wpList_mapUpdate_k [DecidableEq α] (hg : o.guard = none) (m x v : Operand) (t : TypeId) (hop : o.op = Op.mapUpdate t m x v) (e : TypeId) (K : Keyed P k) (hE : ∀ x y, E x = E y → x = y) (ht : P.underlying t = some (.map k e))
 (hm : a.eval m = .map (some b)) (h : kmap w P k E b V) (key : α) (hx : a.eval x = E key) (hkey : ∃ l, keyOf P k (E key) = some l) (val : Value) (hv : a.eval v = val)
 (hK : ∀ w', kmap w' P k E b (upd V key (some val)) → w.grownBy w' (some b) → w'.heap.size = w.heap.size → wpList P ops Q rest (a.put o.dst undef) w') : wpList P ops Q (o :: rest) a w := by
 obtain ⟨l, hkey⟩ := hkey
 refine wpList_plain hg fun K' hK' => ?_
 obtain ⟨w', hrun, r1, r2, r3⟩ := h.update K hE ht hkey val
 unfold Oper.wp
 simp [execOp, hop, hm, hx, hv, hrun, Result.andThen]
 exact hK' _ _ (hK w' r1 r2 r3)

theorem wpList_delete_k [DecidableEq α] (hg : o.guard = none) (m x : Operand) (t : TypeId) (hop : o.op = Op.call { callee := Callee.builtin Builtin.delete, args := #[m, x], argTypes := #[t, k] }) (e : TypeId) (K : Keyed P k) (hE : ∀ x y, E x = E y → x = y) (ht : P.underlying t = some (.map k e))
 (hm : a.eval m = .map (some b)) (h : kmap w P k E b V) (key : α) (hx : a.eval x = E key) (hkey : ∃ l, keyOf P k (E key) = some l)
 (hK : ∀ w', kmap w' P k E b (upd V key none) → w.grownBy w' (some b) → w'.heap.size = w.heap.size → wpList P ops Q rest (a.put o.dst (.tuple #[])) w') : wpList P ops Q (o :: rest) a w := by
 obtain ⟨l, hkey⟩ := hkey
 refine wpList_plain hg fun K' hK' => ?_
 obtain ⟨w', hrun, r1, r2, r3⟩ := h.delete (ty := o.type) K hE ht hkey
 unfold Oper.wp
 simp [execOp, hop, resolve, invoke, builtin, hm, hx, hrun, Result.andThen]
 exact hK' _ _ (hK w' r1 r2 r3)

theorem wpList_lookup_k (hg : o.guard = none) (m x : Operand) (t : TypeId) (c : Bool) (hop : o.op = Op.lookup t m x c) (e : TypeId) (K : Keyed P k) (ht : P.underlying t = some (.map k e)) {z : Value} (hz : (zeroValue e).run P w = .ok z w)
 (hm : a.eval m = .map (some b)) (h : kmap w P k E b V) (key : α) (hx : a.eval x = E key) (hkey : ∃ l, keyOf P k (E key) = some l)
 (hK : wpList P ops Q rest (a.put o.dst (if c then .tuple #[(V key).getD z, .bool (V key).isSome] else (V key).getD z)) w) : wpList P ops Q (o :: rest) a w := by
 obtain ⟨l, hkey⟩ := hkey
 refine wpList_plain hg fun K' hK' => ?_
 have hrun := h.lookup K ht hkey hz c
 unfold Oper.wp
 simp [execOp, hop, hm, hx, hrun, Result.andThen]
 exact hK' _ _ hK

theorem wpList_range_k (hg : o.guard = none) (m : Operand) (t : TypeId) (hop : o.op = Op.range t m) (e : TypeId) (ht : P.underlying t = some (.map k e)) (hm : a.eval m = .map (some b)) (h : kmap w P k E b V)
 (hK : ∀ w' cnt, kranges w' P k E b w.heap.size V (fun a => ∃ v, V a = some v) cnt → w.grownBy w' none → w'.heap.size = w.heap.size + 1 → wpList P ops Q rest (a.put o.dst (.pointer (some ⟨w.heap.size, 0, none⟩))) w') :
 wpList P ops Q (o :: rest) a w := by
 refine wpList_plain hg fun K' hK' => ?_
 obtain ⟨w', cnt, hrun, r1, r2, r3⟩ := h.range ht
 unfold Oper.wp
 simp [execOp, hop, hm, hrun, Result.andThen]
 exact hK' _ _ (hK w' cnt r1 r2 r3)

theorem wpList_next_k (hg : o.guard = none) (it : Operand) (hop : o.op = Op.next it false) (hE : ∀ x y, E x = E y → x = y) {r cnt : Nat} {left : α → Prop}
 (hit : a.eval it = .pointer (some ⟨r, 0, none⟩)) (h : kranges w P k E b r V left cnt)
 (hDone : cnt = 0 → (∀ x, ¬ left x) → wpList P ops Q rest (a.put o.dst (.tuple #[.bool false])) w)
 (hMore : ∀ (x : α) (v : Value) (w' : World) (cnt' : Nat), (∃ l, keyOf P k (E x) = some l) → left x → V x = some v → kranges w' P k E b r V (fun y => left y ∧ y ≠ x) cnt' → cnt' < cnt → w.grownBy w' (some r) → w'.heap.size = w.heap.size →
  (Instr.entry (.pointer (some ⟨r, 0, none⟩))).run P w' = .ok (.tuple #[E x, v]) w' → wpList P ops Q rest (a.put o.dst (.tuple #[.bool true, E x, v])) w') :
 wpList P ops Q (o :: rest) a w := by
 refine wpList_plain hg fun K' hK' => ?_
 unfold Oper.wp
 rcases h.next hE o.type with ⟨h0, hl, hrun⟩ | ⟨x, v, l, w', cnt', hkey, hlk, hv, hrun, hrg, hlt, hgr, hsz, hen⟩
 · simp [execOp, hop, hit, hrun, Result.andThen]
   exact hK' _ _ (hDone h0 hl)
 · simp [execOp, hop, hit, hrun, Result.andThen]
   exact hK' _ _ (hMore x v w' cnt' ⟨l, hkey⟩ hlk hv hrg hlt hgr hsz hen)

theorem wpList_drop_k [DecidableEq α] (hg : o.guard = none) (m x : Operand) (t : TypeId) (hop : o.op = Op.call { callee := Callee.builtin Builtin.delete, args := #[m, x], argTypes := #[t, k] }) (e : TypeId) (K : Keyed P k) (hE : ∀ x y, E x = E y → x = y) (ht : P.underlying t = some (.map k e))
 {r cnt : Nat} {left : α → Prop} (hm : a.eval m = .map (some b)) (h : kranges w P k E b r V left cnt) (key : α) (hx : a.eval x = E key) (hkey : ∃ l, keyOf P k (E key) = some l)
 (hK : ∀ w' cnt', kranges w' P k E b r (upd V key none) (fun x => left x ∧ x ≠ key) cnt' → cnt' ≤ cnt → w.grownBy w' (some b) → w'.heap.size = w.heap.size → wpList P ops Q rest (a.put o.dst (.tuple #[])) w') : wpList P ops Q (o :: rest) a w := by
 obtain ⟨l, hkey⟩ := hkey
 refine wpList_plain hg fun K' hK' => ?_
 obtain ⟨w', cnt', hrun, r0, r1, r2, r3⟩ := h.drop (ty := o.type) K hE ht hkey
 unfold Oper.wp
 simp [execOp, hop, resolve, invoke, builtin, hm, hx, hrun, Result.andThen]
 exact hK' _ _ (hK w' cnt' r0 r1 r2 r3)
end
end
end Go.Wh

namespace Go.Proofs.YtlcfoeikamkpmaaGreat

def Byt (l : List Int) : Prop := ∀ z ∈ l, 0 ≤ z ∧ z ≤ 255
theorem Byt.append {a b : List Int} (ha : Byt a) (hb : Byt b) : Byt (a ++ b) := fun z hz => (List.mem_append.1 hz).elim (ha z) (hb z)
theorem Byt.left {a b : List Int} (h : Byt (a ++ b)) : Byt a := fun z hz => h z (List.mem_append_left _ hz)
theorem Byt.right {a b : List Int} (h : Byt (a ++ b)) : Byt b := fun z hz => h z (List.mem_append_right _ hz)
theorem Byt.drop {a : List Int} (h : Byt a) (n : Nat) : Byt (a.drop n) := fun z hz => h z (List.mem_of_mem_drop hz)
theorem Byt.take {a : List Int} (h : Byt a) (n : Nat) : Byt (a.take n) := fun z hz => h z (List.mem_of_mem_take hz)
theorem Byt.zeros (n : Nat) : Byt (List.replicate n 0) := fun z hz => by
 rw [(List.mem_replicate.1 hz).2]
 omega

def numB : Nat → Int → List Int
 | 0, _ => []
 | n + 1, v => v / 256 ^ n % 256 :: numB n v
theorem numB_length (n : Nat) (v : Int) : (numB n v).length = n := by
 induction n with
 | zero => rfl
 | succ n ih => simp [numB, ih]
theorem numB_byt (n : Nat) (v : Int) : Byt (numB n v) := by
 induction n with
 | zero => intro z hz; cases hz
 | succ n ih =>
  intro z hz
  rcases List.mem_cons.1 hz with rfl | hz
  · omega
  · exact ih z hz
def numsB (n : Nat) (l : List Int) : List Int := l.flatMap (numB n)
theorem numsB_length (n : Nat) (l : List Int) : (numsB n l).length = l.length * n := by
 induction l with
 | nil => simp [numsB]
 | cons a l ih =>
  have : numsB n (a :: l) = numB n a ++ numsB n l := rfl
  rw [this, List.length_append, numB_length, ih, List.length_cons, Nat.add_mul]
  omega
theorem numsB_byt (n : Nat) (l : List Int) : Byt (numsB n l) := fun z hz => by
 obtain ⟨v, _, h⟩ := List.mem_flatMap.1 hz
 exact numB_byt n v z h

def sumB : List Int → Int × Int → Int × Int
 | [], s => s
 | c :: l, (x, y) => sumB l ((x + c) % 255, (y + (x + c) % 255) % 255)
def chkB (b : List Int) : List Int := [(sumB b (0, 0)).1, (sumB b (0, 0)).2]
theorem sumB_range (b : List Int) : ∀ s : Int × Int, 0 ≤ s.1 ∧ s.1 < 255 → 0 ≤ s.2 ∧ s.2 < 255 → (0 ≤ (sumB b s).1 ∧ (sumB b s).1 < 255) ∧ 0 ≤ (sumB b s).2 ∧ (sumB b s).2 < 255 := by
 induction b with
 | nil => intro s h1 h2; exact ⟨h1, h2⟩
 | cons c l ih =>
  intro s h1 h2
  obtain ⟨x, y⟩ := s
  unfold sumB
  exact ih _ (by simp only; omega) (by simp only; omega)
def partB (S : List Int) (i : Nat) : List Int := (S.drop (i * 63)).take 63
def tileB (S : List Int) (i : Nat) : List Int := ((partB S i).length : Int) :: (partB S i ++ List.replicate (63 - (partB S i).length) 0)
theorem partB_length (S : List Int) (i : Nat) : (partB S i).length = min 63 (S.length - i * 63) := by
 unfold partB
 rw [List.length_take, List.length_drop]
theorem tileB_length (S : List Int) (i : Nat) : (tileB S i).length = 64 := by
 unfold tileB
 have := partB_length S i
 simp only [List.length_cons, List.length_append, List.length_replicate]
 omega
def readB : List (List Int) → List Int
 | [] => []
 | s :: l => if 63 < s.headD 0 then [] else (s.drop 1).take (s.headD 0).toNat ++ (if s.headD 0 < 63 then [] else readB l)
theorem readB_tiles (S : List Int) : ∀ (n i : Nat), S.length ≤ (i + n) * 63 → readB ((List.range n).map fun j => tileB S (i + j)) = S.drop (i * 63)
 | 0, i, h => by
  rw [List.drop_eq_nil_of_le (by omega)]
  rfl
 | n + 1, i, h => by
  have e : (List.range (n + 1)).map (fun j => tileB S (i + j)) = tileB S i :: (List.range n).map fun j => tileB S (i + 1 + j) := by
   rw [List.range_succ_eq_map, List.map_cons, List.map_map]
   congr 1
   refine List.map_congr_left fun j _ => ?_
   show tileB S (i + (j + 1)) = _
   rw [Nat.add_assoc, Nat.add_comm 1 j]
  rw [e]
  unfold readB
  have hp := partB_length S i
  have h1 : (tileB S i).headD 0 = ((partB S i).length : Int) := rfl
  have h2 : (tileB S i).drop 1 = partB S i ++ List.replicate (63 - (partB S i).length) 0 := rfl
  rw [h1, h2, if_neg (by omega), Int.toNat_natCast, List.take_left' rfl]
  by_cases hf : ((partB S i).length : Int) < 63
  · rw [if_pos hf, List.append_nil]
    unfold partB
    rw [List.take_of_length_le]
    rw [List.length_drop]
    omega
  · rw [if_neg hf, readB_tiles S n (i + 1) (by omega)]
    unfold partB
    rw [show (i + 1) * 63 = i * 63 + 63 by omega, ← List.drop_drop, List.take_append_drop]

def decB (l : List Int) : Int := l.foldl (fun v x => v * 256 + x) 0
theorem dec1 {v : Int} (h : 0 ≤ v ∧ v < 256) : decB (numB 1 v) = v := by
 simp only [decB, numB, List.foldl_cons, List.foldl_nil]
 omega
theorem dec2 {v : Int} (h : 0 ≤ v ∧ v < 65536) : decB (numB 2 v) = v := by
 simp only [decB, numB, List.foldl_cons, List.foldl_nil]
 omega
theorem dec3 {v : Int} (h : 0 ≤ v ∧ v < 16777216) : decB (numB 3 v) = v := by
 simp only [decB, numB, List.foldl_cons, List.foldl_nil]
 omega
end Go.Proofs.YtlcfoeikamkpmaaGreat

namespace Go.Proofs.YtlcfoeikamkpmaaGreat
open Go.RowKit Go.Wh Go.Maps

abbrev Still (w w' : World) : Prop := Only (fun _ => False) w w'
theorem Still.cell {w w' : World} {p : Addr} {u : Value} (h : Still w w') (hc : w.cell? p = some u) : w'.cell? p = some u := (Only.cell h (World.block_lt_of_cell? _ _ hc) fun e => e).trans hc
theorem Still.refl (w : World) : Still w w := Only.refl _ _
theorem still_drew (w : World) : Still w w.drew := Only.drew (Only.refl _ _)
theorem info_b : (Tryz.prog.info? 5).map (fun i => (i.zero, i.size, i.bytes)) = some (some (.int .u8 0), 1, 1) := by kernel_rfl

set_option maxHeartbeats 400000 in
theorem clone_b (v : Value) (n : Nat) (xs : List Value) (w : World) (h : Reads w 1 v n xs) (h1c : ∀ u ∈ xs, u.oneCell' = true) (hn : n ≤ 10000) :
 Calls Tryz.prog 36 #[v] w (FreshPost w 1 n xs) := by
 rcases id h with ⟨hl, ⟨rfl, rfl⟩ | ⟨a, c, rfl, hc⟩⟩
 · have hnil : xs = [] := by simpa using hl
   have F := Lib.hid (show FreshPost w 1 0 xs (.returned (.slice none 0 0)) w from ⟨_, rfl, by rw [hnil]; exact Vec.nil _ _, Below.refl _ _, fun g hg => by cases hg⟩)
   clear h hl hnil
   have hnn := fun W : World => Lib.run_eql_slice_nil (P := Tryz.prog) W 22 5 none 0 0 0 0 Tryz.underlying22
   go_enter Tryz.func36, Tryz.ntmps36
   go_wp2_with fail
   go_ret
   exact F.out
 · obtain ⟨i0, hi, hz0, hz1, hz2⟩ := info_parts info_b
   have H := Lib.hid h
   have HC := Lib.hid h1c
   clear h hl hc h1c
   have hnn := fun W : World => Lib.run_eql_slice_nil (P := Tryz.prog) W 22 5 (some a) n c 0 0 Tryz.underlying22
   go_enter Tryz.func36, Tryz.ntmps36
   have H1 := Lib.hid (H.out.belowAll ((Below.refl _ _).alloc (Nat.le_refl _) (Obj.cells #[] 5)))
   go_wp2_with (at_builtin; refine wpList_append_vec rfl _ _ 22 rfl 5 i0 _ 1 1 Tryz.underlying22 hi hz0 hz1 hz2 rfl (by decide) _ 0 [] rfl (Vec.none_ _ _ _ _) _ n xs rfl H1.out HC.out (by simp only [maxLen]; omega) (by omega) ?_; intro v' w' hv' ho' hb')
   have F := Lib.hid (show FreshPost w 1 n xs (.returned v') w' from by
    have hbel := (Below.refl w.heap.size w).alloc (Nat.le_refl _) (Obj.cells #[] 5)
    refine ⟨v', rfl, by simpa using hv', hbel.trans (ho'.below (by simp) (fun i hi e => ?_)), fun g hg => ?_⟩
    · have e2 : w.heap.size = i := Option.some.inj e
      omega
    · rcases hb' with e | ⟨g', e, h1, h2⟩
      · have e2 : w.heap.size = g := Option.some.inj (e.symm.trans hg)
        have h3 := ho'.size
        simp at h3
        omega
      · rw [e] at hg
        injection hg with hg
        simp at h1
        omega)
   clear hv' ho' hb' H H1 HC
   go_wp2_with fail
   go_ret
   exact F.out

def bc (l : List Int) : List Value := l.map fun z => .int .u8 z
theorem bc_one (l : List Int) : ∀ u ∈ bc l, u.oneCell' = true := fun u hu => by
 obtain ⟨z, _, rfl⟩ := List.mem_map.1 hu
 rfl
theorem bc_length (l : List Int) : (bc l).length = l.length := List.length_map _
theorem bc_append (a b : List Int) : bc (a ++ b) = bc a ++ bc b := List.map_append
theorem bc_take (l : List Int) (n : Nat) : (bc l).take n = bc (l.take n) := (List.map_take ..).symm
theorem bc_drop (l : List Int) (n : Nat) : (bc l).drop n = bc (l.drop n) := (List.map_drop ..).symm
theorem bc_get {l : List Int} {i : Nat} {z : Int} (h : l[i]? = some z) : (bc l)[i]? = some (.int .u8 z) := by
 unfold bc
 rw [List.getElem?_map, h]
 rfl

section
variable {w w' : World} {size m n : Nat} {v : Value} {xs : List Value}
theorem Reads.only {S : Nat → Prop} (h : Reads w size v m xs) (ho : Only S w w') (hs : ∀ g, v.ownBlock = some g → ¬ S g) : Reads w' size v m xs := by
 refine ⟨h.1, h.2.imp id ?_⟩
 rintro ⟨a, c, rfl, hc⟩
 refine ⟨a, c, rfl, fun j u hj => ?_⟩
 have h1 := hc j u hj
 refine (ho.cell (World.block_lt_of_cell? _ _ h1) ?_).trans h1
 have h2 : (a.add j).block = a.block := by unfold Addr.add; split <;> rfl
 rw [h2]
 exact hs a.block rfl
theorem Reads.still (h : Reads w size v m xs) (ho : Still w w') : Reads w' size v m xs := Reads.only h ho fun _ _ e => e
theorem Reads.form (h : Reads w size v m xs) : ∃ a c, v = .slice a m c := by
 rcases h.2 with ⟨rfl, rfl⟩ | ⟨a, c, rfl, _⟩
 · exact ⟨_, _, rfl⟩
 · exact ⟨_, _, rfl⟩
end

structure DkAt (w : World) (d : Nat) (T : List (List Int)) (tv : Value) (mb : Nat) (vs : List Value) : Prop where
 cells : cellsAt w d [tv, .map (some mb), .bool false, .pointer none]
 t : Vec w 1 tv T.length vs
 ins : ∀ (i : Nat) (l : List Int), T[i]? = some l → ∃ v, vs[i]? = some v ∧ Reads w 1 v 64 (bc l)
 m : ∃ V, kmap w Tryz.prog 3 (fun z : Int => .int .i64 z) mb V
 dm : d ≠ mb
 td : ∀ g, tv.ownBlock = some g → g ≠ d ∧ g ≠ mb ∧ g < w.heap.size
 ia : ∀ v ∈ vs, ∀ g, v.ownBlock = some g → g ≠ d ∧ g ≠ mb ∧ tv.ownBlock ≠ some g ∧ g < w.heap.size
 one : ∀ u ∈ vs, u.oneCell' = true
section
variable {w w' : World} {d mb : Nat} {T : List (List Int)} {tv : Value} {vs : List Value}
theorem DkAt.lt (h : DkAt w d T tv mb vs) : d < w.heap.size ∧ mb < w.heap.size := by
 obtain ⟨V, hm⟩ := h.m
 exact ⟨h.cells.lt, hm.lt⟩
theorem DkAt.only {S : Nat → Prop} (h : DkAt w d T tv mb vs) (ho : Only S w w') (h1 : ¬ S d) (h2 : ¬ S mb) (h3 : ∀ g, tv.ownBlock = some g → ¬ S g) (h4 : ∀ v ∈ vs, ∀ g, v.ownBlock = some g → ¬ S g) : DkAt w' d T tv mb vs := by
 refine ⟨h.cells.only ho h1, h.t.only ho h3, fun i l hi => ?_, ?_, h.dm, fun g hg => ?_, fun v hv g hg => ?_, h.one⟩
 · obtain ⟨v, hv, hr⟩ := h.ins i l hi
   exact ⟨v, hv, Reads.only hr ho (h4 v (List.mem_of_getElem? hv))⟩
 · obtain ⟨V, hm⟩ := h.m
   exact ⟨V, hm.block (ho.block mb hm.lt h2)⟩
 · have := h.td g hg
   exact ⟨this.1, this.2.1, Nat.lt_of_lt_of_le this.2.2 ho.size⟩
 · have := h.ia v hv g hg
   exact ⟨this.1, this.2.1, this.2.2.1, Nat.lt_of_lt_of_le this.2.2.2 ho.size⟩
theorem DkAt.still (h : DkAt w d T tv mb vs) (hs : Still w w') : DkAt w' d T tv mb vs := h.only hs (fun e => e) (fun e => e) (fun _ _ e => e) (fun _ _ _ _ e => e)
theorem DkAt.form (h : DkAt w d T tv mb vs) : ∃ a c, tv = .slice a T.length c := h.t.form'
theorem DkAt.lens (h : DkAt w d T tv mb vs) {i : Nat} {l : List Int} (hi : T[i]? = some l) : l.length = 64 := by
 obtain ⟨v, _, hr⟩ := h.ins i l hi
 have := hr.1
 rw [bc_length] at this
 omega
end

def SamePost (w : World) (v : Value) (e : Ending) (w' : World) : Prop := e = .returned v ∧ w' = w

theorem tiles_any (w : World) (d : Nat) (T : List (List Int)) (tv : Value) (mb : Nat) (vs : List Value) (h : DkAt w d T tv mb vs) :
 Calls Tryz.prog 33 #[.pointer (some ⟨d, 0, none⟩)] w (SamePost w (.int .i64 T.length)) := by
 obtain ⟨a, c, rfl⟩ := h.form
 have c0 : w.cell? ⟨d, 0, none⟩ = some (.slice a T.length c) := h.cells.cell 0
 clear h
 go_enter Tryz.func33, Tryz.ntmps33
 go_wp2_with fail
 go_ret
 exact ⟨rfl, rfl⟩
theorem dead_any (w : World) (d : Nat) (T : List (List Int)) (tv : Value) (mb : Nat) (vs : List Value) (h : DkAt w d T tv mb vs) :
 Calls Tryz.prog 28 #[.pointer (some ⟨d, 0, none⟩)] w (SamePost w (.bool false)) := by
 have c0 : w.cell? ⟨d, 2, none⟩ = some (.bool false) := h.cells.cell 2
 clear h
 go_enter Tryz.func28, Tryz.ntmps28
 go_wp2_with fail
 go_ret
 exact ⟨rfl, rfl⟩
theorem cut_any (w : World) (d : Nat) (T : List (List Int)) (tv : Value) (mb : Nat) (vs : List Value) (h : DkAt w d T tv mb vs) :
 Calls Tryz.prog 41 #[.pointer (some ⟨d, 0, none⟩)] w (SamePost w (.bool false)) := by
 have c0 : w.cell? ⟨d, 3, none⟩ = some (.pointer none) := h.cells.cell 3
 clear h
 go_enter Tryz.func41, Tryz.ntmps41
 go_wp2_with fail
 go_ret
 exact ⟨rfl, rfl⟩
theorem may_any (w : World) (d : Nat) (T : List (List Int)) (tv : Value) (mb : Nat) (vs : List Value) (i : Nat) (h : DkAt w d T tv mb vs) (hi : i < T.length) :
 Calls Tryz.prog 40 #[.pointer (some ⟨d, 0, none⟩), .int .i64 i] w (SamePost w (.int .i64 0)) := by
 obtain ⟨a, c, rfl⟩ := h.form
 have c0 : w.cell? ⟨d, 0, none⟩ = some (.slice a T.length c) := h.cells.cell 0
 have c2 : w.cell? ⟨d, 2, none⟩ = some (.bool false) := h.cells.cell 2
 have b1 : decide ((i : Int) < 0) = false := by simp
 have b2 : decide ((T.length : Int) ≤ (i : Int)) = false := by simp; omega
 have b2' : decide (T.length ≤ i) = false := by simp; omega
 clear h
 go_enter Tryz.func40, Tryz.ntmps40
 go_wp2_with fail
 go_ret
 exact ⟨rfl, rfl⟩
set_option maxHeartbeats 1000000 in
theorem read_any (w : World) (d : Nat) (T : List (List Int)) (tv : Value) (mb : Nat) (vs : List Value) (i : Nat) (l : List Int) (h : DkAt w d T tv mb vs) (hi : T[i]? = some l) :
 Calls Tryz.prog 31 #[.pointer (some ⟨d, 0, none⟩), .int .i64 i] w (fun e w' => ∃ v, e = .returned (.tuple #[v, .int .i64 0]) ∧ Vec w' 1 v 64 (bc l) ∧ Still w w' ∧ ∀ g, v.ownBlock = some g → w.heap.size ≤ g ∧ g < w'.heap.size) := by
 have hl := (List.getElem?_eq_some_iff.1 hi).1
 have HM := Lib.hid (may_any w d T tv mb vs i h hl)
 obtain ⟨v, hv, hr⟩ := h.ins i l hi
 have HC := Lib.hid (clone_b v 64 (bc l) w hr (bc_one l) (by omega))
 obtain ⟨g, o, c, rfl, ht⟩ := h.t.form (by omega)
 have c0 : w.cell? ⟨d, 0, none⟩ = some (.slice (some ⟨g, o, none⟩) T.length c) := h.cells.cell 0
 have c1 : w.cell? ⟨g, o + i, none⟩ = some v := by
  rw [ht.cells i (by omega)]
  exact hv
 have b1 : (0 : Int) ≤ (i : Int) := by omega
 have b2 : (i : Int) < (T.length : Int) := by omega
 clear h hi hl hv hr ht
 go_enter Tryz.func31, Tryz.ntmps31
 go_wp2_with fail
 refine HM.out.mono ?_
 rintro e w1 ⟨rfl, rfl⟩
 go_wp2_with fail
 refine HC.out.mono ?_
 rintro e w2 ⟨v2, rfl, hv2, hb2, hg2⟩
 have F := Lib.hid (show ∃ v, (Ending.returned (.tuple #[v2, .int .i64 0])) = .returned (.tuple #[v, .int .i64 0]) ∧ Vec w2 1 v 64 (bc l) ∧ Still w1 w2 ∧ ∀ g, v.ownBlock = some g → w1.heap.size ≤ g ∧ g < w2.heap.size from ⟨v2, rfl, hv2, Only.ofBelow hb2, hg2⟩)
 clear hv2 hb2 hg2 HC HM
 go_wp2_with fail
 go_ret2
 exact F.out
end Go.Proofs.YtlcfoeikamkpmaaGreat

namespace Go.Wh

section
variable {P : Program} {ops : Array Oper} {Q : Exit → Act → World → Prop} {md : Region.Mode} {S : World → Prop} {D : Nat → Bool}

def wpAnyD (P : Program) (md : Region.Mode) (ops : Array Oper) (Q : Exit → Act → World → Prop) (S : World → Prop) (D : Nat → Bool) : Nat → Array Bool → Act → World → Prop
 | 0, listed, a, w => Region.ready md ops listed = [] ∧ Q .normal a w
 | fuel + 1, listed, a, w =>
  (Region.ready md ops listed = [] → Q .normal a w) ∧
  ∀ i ∈ Region.ready md ops listed, wpOp P ops Q i (fun a' w' => (D i = false → S w') ∧ wpAnyD P md ops Q S D fuel (listed.setIfInBounds i true) a' w') a w

theorem wpAny_of_D : ∀ (fuel : Nat) (listed : Array Bool) (a : Act) (w : World), wpAnyD P md ops Q S D fuel listed a w → wpAny P md ops Q fuel listed a w
 | 0, _, _, _, h => h
 | fuel + 1, _, _, _, h => ⟨h.1, fun i hi => wpOp_mono (fun a' w' h' => wpAny_of_D fuel _ a' w' h'.2) (h.2 i hi)⟩

def Closed (md : Region.Mode) (ops : Array Oper) (listed : Array Bool) : Prop := ∀ k ok, ops[k]? = some ok → listed.getD k true = true → ∀ e ∈ ok.after, Region.binds md e = true → listed.getD e.on false = true

def waitsFor (md : Region.Mode) (ops : Array Oper) : Nat → Nat → Nat → Bool
 | 0, _, _ => false
 | f + 1, j, i => match ops[j]? with
  | some oj => oj.after.any fun e => Region.binds md e && (e.on == i || waitsFor md ops f e.on i)
  | none => false

theorem waitsFor_listed {listed : Array Bool} (hc : Closed md ops listed) : ∀ (f j i : Nat), waitsFor md ops f j i = true → (∀ oj, ops[j]? = some oj → ∀ e ∈ oj.after, Region.binds md e = true → listed.getD e.on false = true) → listed.getD i false = true
 | 0, _, _, h, _ => by simp [waitsFor] at h
 | f + 1, j, i, h, hall => by
  unfold waitsFor at h
  cases hj : ops[j]? with
  | none => simp [hj] at h
  | some oj =>
   simp only [hj] at h
   obtain ⟨e, he, hb⟩ := Array.any_eq_true'.1 h
   simp only [Bool.and_eq_true, Bool.or_eq_true, beq_iff_eq] at hb
   have h1 := hall oj hj e he hb.1
   rcases hb.2 with h2 | h2
   · rw [← h2]; exact h1
   · refine waitsFor_listed hc f e.on i h2 fun ok hk e' he' hb' => hc e.on ok hk ?_ e' he' hb'
     have hlt : e.on < listed.size := by
      rcases Nat.lt_or_ge e.on listed.size with h' | h'
      · exact h'
      · simp [Array.getElem?_eq_none h'] at h1
     simpa [hlt] using h1

theorem Closed.set {listed : Array Bool} {i : Nat} (hc : Closed md ops listed) (hr : i ∈ Region.ready md ops listed) : Closed md ops (listed.setIfInBounds i true) := by
 intro k ok hk hl e he hb
 by_cases hki : i = k
 · subst hki
   obtain ⟨_, o, ho, hall⟩ := mem_ready.1 hr
   rw [ho] at hk
   cases hk
   exact getD_set_true (hall e he hb)
 · rw [getD_set_ne true hki] at hl
   exact getD_set_true (hc k ok hk hl e he hb)

theorem wpAnyD_first {i : Nat} {oi : Oper} {v : Value} (hi : ops[i]? = some oi) (hsel : ∀ (j : Nat) (o : Oper) cs b, ops[j]? = some o → o.op ≠ .select cs b)
 (hQ : ∀ c a w, Q (.panic c) (a.put oi.dst v) w → Q (.panic c) a w) :
 ∀ (fuel : Nat) (listed : Array Bool) (a : Act) (w : World),
  (∀ j oj, ops[j]? = some oj → j ≠ i → listed.getD j true = false → (∀ e ∈ oj.after, Region.binds md e = true → e.on ≠ i) → oi.apart ops oj = true) →
  (∀ j oj, ops[j]? = some oj → D j = true → listed.getD j true = false → ∃ f, waitsFor md ops f j i = true) → Closed md ops listed →
  i ∈ Region.ready md ops listed → YieldsIf P ops S oi v a → S w →
  wpAnyD P md ops Q S D fuel (listed.setIfInBounds i true) (a.put oi.dst v) w → wpAnyD P md ops Q S D (fuel + 1) listed a w := by
 intro fuel
 induction fuel with
 | zero =>
  intro listed a w _ _ _ hr hy hS H
  refine ⟨fun h => (by rw [h] at hr; cases hr), fun j hj => ?_⟩
  by_cases hji : j = i
  · subst hji; exact hy.wpOp hi hS ⟨fun _ => hS, H⟩
  · have := ready_mono hj hji
    rw [H.1] at this
    cases this
 | succ fuel ih =>
  intro listed a w hfree hD hcl hr hy hS H
  refine ⟨fun h => (by rw [h] at hr; cases hr), fun j hj => ?_⟩
  by_cases hji : j = i
  · subst hji; exact hy.wpOp hi hS ⟨fun _ => hS, H⟩
  · have h1 := H.2 j (ready_mono hj hji)
    obtain ⟨hjun, oj, hoj, hall⟩ := mem_ready.1 hj
    have h0 := (mem_ready.1 hr).1
    have hno : ∀ e, listed.getD e false = true → e ≠ i := fun e h1 heq => by
     rw [heq] at h1
     rcases Nat.lt_or_ge i listed.size with h' | h'
     · simp [h'] at h0 h1; rw [h0] at h1; cases h1
     · simp [Array.getElem?_eq_none h'] at h1
    have hnot : ∀ e ∈ oj.after, Region.binds md e = true → e.on ≠ i := fun e he hb => hno e.on (hall e he hb)
    have hDj : D j = false := by
     cases hd : D j with
     | false => rfl
     | true =>
      obtain ⟨f, hf⟩ := hD j oj hoj hd hjun
      exact absurd rfl (hno i (waitsFor_listed hcl f j i hf fun ok hk => by rw [hoj] at hk; cases hk; exact hall))
    have h2 := wpOp_putIf hoj (hfree j oj hoj hji hjun hnot) (fun cs b => hsel i oi cs b hi) (fun cs b => hsel j oj cs b hoj) hQ hy h1
    have hfree' : ∀ k ok, ops[k]? = some ok → k ≠ i → (listed.setIfInBounds j true).getD k true = false →
     (∀ e ∈ ok.after, Region.binds md e = true → e.on ≠ i) → oi.apart ops ok = true := fun k ok hk hki hun hno => by
     refine hfree k ok hk hki ?_ hno
     by_cases hjk : j = k
     · subst hjk; exact hjun
     · rw [getD_set_ne true hjk] at hun; exact hun
    have hD' : ∀ k ok, ops[k]? = some ok → D k = true → (listed.setIfInBounds j true).getD k true = false → ∃ f, waitsFor md ops f k i = true := fun k ok hk hd hun => by
     refine hD k ok hk hd ?_
     by_cases hjk : j = k
     · subst hjk; exact hjun
     · rw [getD_set_ne true hjk] at hun; exact hun
    refine wpOp_mono (fun a' w' h3 => ⟨h3.2.1, ih (listed.setIfInBounds j true) a' w' hfree' hD' (hcl.set hj) (ready_mono hr (Ne.symm hji)) h3.1 (h3.2.1 hDj) ?_⟩) h2
    rw [Array.setIfInBounds_comm _ _ hji]
    exact h3.2.2

theorem wpAnyD_firstY {i : Nat} {oi : Oper} {v : Value} (hi : ops[i]? = some oi) (hsel : ∀ (j : Nat) (o : Oper) cs b, ops[j]? = some o → o.op ≠ .select cs b)
 (hQ : ∀ c a w, Q (.panic c) (a.put oi.dst v) w → Q (.panic c) a w) :
 ∀ (fuel : Nat) (listed : Array Bool) (a : Act) (w : World),
  (∀ j oj, ops[j]? = some oj → j ≠ i → listed.getD j true = false → (∀ e ∈ oj.after, Region.binds md e = true → e.on ≠ i) → oi.apart ops oj = true) →
  i ∈ Region.ready md ops listed → Yields P ops oi v a → D i = true →
  wpAnyD P md ops Q S D fuel (listed.setIfInBounds i true) (a.put oi.dst v) w → wpAnyD P md ops Q S D (fuel + 1) listed a w := by
 intro fuel
 induction fuel with
 | zero =>
  intro listed a w _ hr hy hS H
  refine ⟨fun h => (by rw [h] at hr; cases hr), fun j hj => ?_⟩
  by_cases hji : j = i
  · subst hji; exact hy.wpOp hi ⟨fun e => (by rw [hS] at e; cases e), H⟩
  · have := ready_mono hj hji
    rw [H.1] at this
    cases this
 | succ fuel ih =>
  intro listed a w hfree hr hy hS H
  refine ⟨fun h => (by rw [h] at hr; cases hr), fun j hj => ?_⟩
  by_cases hji : j = i
  · subst hji; exact hy.wpOp hi ⟨fun e => (by rw [hS] at e; cases e), H⟩
  · have h1 := H.2 j (ready_mono hj hji)
    obtain ⟨hjun, oj, hoj, hall⟩ := mem_ready.1 hj
    have hnot : ∀ e ∈ oj.after, Region.binds md e = true → e.on ≠ i := fun e he hb heq => by
     have h1 := hall e he hb
     have h0 := (mem_ready.1 hr).1
     rw [heq] at h1
     rcases Nat.lt_or_ge i listed.size with h' | h'
     · simp [h'] at h0 h1; rw [h0] at h1; cases h1
     · simp [Array.getElem?_eq_none h'] at h1
    have h2 := wpOp_put hoj (hfree j oj hoj hji hjun hnot) (fun cs b => hsel i oi cs b hi) (fun cs b => hsel j oj cs b hoj) hQ hy h1
    have hfree' : ∀ k ok, ops[k]? = some ok → k ≠ i → (listed.setIfInBounds j true).getD k true = false →
     (∀ e ∈ ok.after, Region.binds md e = true → e.on ≠ i) → oi.apart ops ok = true := fun k ok hk hki hun hno => by
     refine hfree k ok hk hki ?_ hno
     by_cases hjk : j = k
     · subst hjk; exact hjun
     · rw [getD_set_ne true hjk] at hun; exact hun
    refine wpOp_mono (fun a' w' h3 => ⟨h3.2.1, ih (listed.setIfInBounds j true) a' w' hfree' (ready_mono hr (Ne.symm hji)) h3.1 hS ?_⟩) h2
    rw [Array.setIfInBounds_comm _ _ hji]
    exact h3.2.2

def waitsAll (md : Region.Mode) (ops : Array Oper) (D : Nat → Bool) (listed : Array Bool) (i : Nat) : Bool :=
 (List.range ops.size).all fun j => !D j || listed.getD j true || waitsFor md ops 5 j i
def closedB (md : Region.Mode) (ops : Array Oper) (listed : Array Bool) : Bool :=
 (List.range ops.size).all fun k => !listed.getD k true || match ops[k]? with
  | some ok => ok.after.all fun e => !Region.binds md e || listed.getD e.on false
  | none => true

theorem waitsAll_spec {listed : Array Bool} {i : Nat} (h : waitsAll md ops D listed i = true) (j : Nat) (oj : Oper) (hj : ops[j]? = some oj) (hd : D j = true) (hl : listed.getD j true = false) : ∃ f, waitsFor md ops f j i = true := by
 simp only [waitsAll, List.all_eq_true, List.mem_range] at h
 have h1 := h j (Array.getElem?_eq_some_iff.1 hj).1
 simp only [hd, hl, Bool.not_true, Bool.false_or] at h1
 exact ⟨5, h1⟩
theorem closedB_spec {listed : Array Bool} (h : closedB md ops listed = true) : Closed md ops listed := by
 intro k ok hk hl e he hb
 simp only [closedB, List.all_eq_true, List.mem_range] at h
 have h1 := h k (Array.getElem?_eq_some_iff.1 hk).1
 simp only [hl, hk, Bool.not_true, Bool.false_or] at h1
 have h2 := Array.all_eq_true'.1 h1 e he
 simpa [hb] using h2

theorem wpAnyD_take {i : Nat} {oi : Oper} {v : Value} {fuel : Nat} {listed : Array Bool} {a : Act} {w : World} (hi : ops[i]? = some oi)
 (hs : Region.noSelect ops = true) (hf : Region.free md ops listed i = true) (hr : (Region.ready md ops listed).contains i = true) (hw : waitsAll md ops D listed i = true) (hc : closedB md ops listed = true)
 (hQ : ∀ c a w, Q (.panic c) (a.put oi.dst v) w → Q (.panic c) a w) (hy : YieldsIf P ops S oi v a) (hS : S w)
 (h : wpAnyD P md ops Q S D fuel (listed.setIfInBounds i true) (a.put oi.dst v) w) : wpAnyD P md ops Q S D (fuel + 1) listed a w :=
 wpAnyD_first hi (Region.noSelect_spec hs) hQ fuel listed a w (Region.free_spec hi hf) (waitsAll_spec hw) (closedB_spec hc) (by simpa using hr) hy hS h

theorem wpAnyD_takeY {i : Nat} {oi : Oper} {v : Value} {fuel : Nat} {listed : Array Bool} {a : Act} {w : World} (hi : ops[i]? = some oi)
 (hs : Region.noSelect ops = true) (hf : Region.free md ops listed i = true) (hr : (Region.ready md ops listed).contains i = true) (hd : D i = true)
 (hQ : ∀ c a w, Q (.panic c) (a.put oi.dst v) w → Q (.panic c) a w) (hy : Yields P ops oi v a)
 (h : wpAnyD P md ops Q S D fuel (listed.setIfInBounds i true) (a.put oi.dst v) w) : wpAnyD P md ops Q S D (fuel + 1) listed a w :=
 wpAnyD_firstY hi (Region.noSelect_spec hs) hQ fuel listed a w (Region.free_spec hi hf) (by simpa using hr) hy hd h

theorem wpAnyD_all {rs : List Nat} {fuel : Nat} {listed : Array Bool} {a : Act} {w : World} (hr : Region.ready md ops listed = rs) (hne : rs ≠ [])
 (h : ∀ i ∈ rs, wpOp P ops Q i (fun a' w' => (D i = false → S w') ∧ wpAnyD P md ops Q S D fuel (listed.setIfInBounds i true) a' w') a w) : wpAnyD P md ops Q S D (fuel + 1) listed a w :=
 ⟨fun h0 => absurd (hr ▸ h0) hne, hr ▸ h⟩

theorem wpAnyD_done {listed : Array Bool} {a : Act} {w : World} (hr : Region.ready md ops listed = []) (h : Q .normal a w) :
 ∀ fuel, wpAnyD P md ops Q S D fuel listed a w
 | 0 => ⟨hr, h⟩
 | _ + 1 => ⟨fun _ => h, by rw [hr]; simp⟩

theorem wp_region_D {id : Nat} {a : Act} {w : World} (hm : P.follows .mixedOrders = true)
 (h : wpAnyD P .any ops Q S D ops.size (Array.replicate ops.size false) a { w with drawn := w.drawn + 1 }) : (Code.region id ops true).wp P Q a w :=
 wp_region_any hm (wpAny_of_D _ _ _ _ h)

def ReadyD (P : Program) (md : Region.Mode) (ops : Array Oper) (Q : Exit → Act → World → Prop) (S : World → Prop) (D : Nat → Bool) (fuel : Nat) (listed : Array Bool) (a : Act) (w : World) (rs : List Nat) : Prop :=
 ∀ i ∈ rs, wpOp P ops Q i (fun a' w' => (D i = false → S w') ∧ wpAnyD P md ops Q S D fuel (listed.setIfInBounds i true) a' w') a w

theorem ReadyD.nil {fuel : Nat} {listed : Array Bool} {a : Act} {w : World} : ReadyD P md ops Q S D fuel listed a w [] := fun _ h => by cases h
theorem ReadyD.cons {fuel : Nat} {listed : Array Bool} {a : Act} {w : World} {i : Nat} {o : Oper} {rs : List Nat} (ho : ops[i]? = some o)
 (h : ∀ K' : Act → World → Prop, Shut (∀ a w, S w → (S w → wpAnyD P md ops Q S D fuel (listed.setIfInBounds i true) a w) → K' a w) → if Region.wanted o (yielded ops a.tmps) = true then Oper.wp P o a w K' Q else K' (a.put o.dst undef) w)
 (hs : ReadyD P md ops Q S D fuel listed a w rs) : ReadyD P md ops Q S D fuel listed a w (i :: rs) := fun j hj => by
 rcases List.mem_cons.1 hj with rfl | hj
 · exact wpOp_step ho (fun K' hK => h K' (fun a w hS hW => hK a w ⟨fun _ => hS, hW hS⟩))
 · exact hs j hj
theorem ReadyD.last {fuel : Nat} {listed : Array Bool} {a : Act} {w : World} {i : Nat} {o : Oper} {rs : List Nat} (ho : ops[i]? = some o) (hd : D i = true)
 (h : ∀ K' : Act → World → Prop, Shut (∀ a w, wpAnyD P md ops Q S D fuel (listed.setIfInBounds i true) a w → K' a w) → if Region.wanted o (yielded ops a.tmps) = true then Oper.wp P o a w K' Q else K' (a.put o.dst undef) w)
 (hs : ReadyD P md ops Q S D fuel listed a w rs) : ReadyD P md ops Q S D fuel listed a w (i :: rs) := fun j hj => by
 rcases List.mem_cons.1 hj with rfl | hj
 · exact wpOp_step ho (fun K' hK => h K' (fun a w hW => hK a w ⟨fun e => (by rw [hd] at e; cases e), hW⟩))
 · exact hs j hj
theorem wpAnyD_ready {rs : List Nat} {fuel : Nat} {listed : Array Bool} {a : Act} {w : World} (hr : Region.ready md ops listed = rs) (hne : rs ≠ [])
 (h : ReadyD P md ops Q S D fuel listed a w rs) : wpAnyD P md ops Q S D (fuel + 1) listed a w := wpAnyD_all hr hne h
theorem wp_region_D_drew {id : Nat} {a : Act} {w : World} (hm : P.follows .mixedOrders = true) (hS : S w.drew)
 (h : S w.drew → wpAnyD P .any ops Q S D ops.size (Array.replicate ops.size false) a w.drew) : (Code.region id ops true).wp P Q a w :=
 wp_region_D hm (h hS)
end

def okTake (md : Region.Mode) (ops : Array Oper) (D : Nat → Bool) (listed : Array Bool) (i : Nat) : Bool :=
 Region.noSelect ops && Region.free md ops listed i && (Region.ready md ops listed).contains i && (D i || (waitsAll md ops D listed i && closedB md ops listed))

section
variable {P : Program} {ops : Array Oper} {Q : Exit → Act → World → Prop} {md : Region.Mode} {S : World → Prop} {D : Nat → Bool}
theorem takeD {i : Nat} (d : Option Tmp) {oi : Oper} {v : Value} {fuel : Nat} {listed : Array Bool} {a : Act} {w : World} (hi : ops[i]? = some oi) (hd : oi.dst = d) (hD : D i = true) (hok : okTake md ops D listed i = true) (hw : Region.wanted oi (yielded ops a.tmps) = true)
 (hQ : ∀ c a w, Q (.panic c) (a.put oi.dst v) w → Q (.panic c) a w) (hy : ∀ w, (execOp a.eval oi).run P w = .ok (.value v) w)
 (h : wpAnyD P md ops Q S D fuel (listed.setIfInBounds i true) (a.put d v) w) : wpAnyD P md ops Q S D (fuel + 1) listed a w := by
 subst hd
 simp only [okTake, Bool.and_eq_true] at hok
 exact wpAnyD_takeY hi hok.1.1.1 hok.1.1.2 hok.1.2 hD hQ (.inl ⟨hw, hy⟩) h
theorem takeS {i : Nat} (d : Option Tmp) {oi : Oper} {v : Value} {fuel : Nat} {listed : Array Bool} {a : Act} {w : World} (hi : ops[i]? = some oi) (hd : oi.dst = d) (hD : D i = false) (hok : okTake md ops D listed i = true) (hw : Region.wanted oi (yielded ops a.tmps) = true)
 (hQ : ∀ c a w, Q (.panic c) (a.put oi.dst v) w → Q (.panic c) a w) (hS : S w) (hy : ∀ w, S w → (execOp a.eval oi).run P w = .ok (.value v) w)
 (h : wpAnyD P md ops Q S D fuel (listed.setIfInBounds i true) (a.put d v) w) : wpAnyD P md ops Q S D (fuel + 1) listed a w := by
 subst hd
 simp only [okTake, hD, Bool.false_or, Bool.and_eq_true] at hok
 exact wpAnyD_take hi hok.1.1.1 hok.1.1.2 hok.1.2 hok.2.1 hok.2.2 hQ (.inl ⟨hw, hy⟩) hS h
end
end Go.Wh
