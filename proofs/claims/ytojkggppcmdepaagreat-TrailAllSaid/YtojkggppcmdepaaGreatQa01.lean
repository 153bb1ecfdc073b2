/- A map in memory as a function from its keys to its elements: looked up, laid into, cut, gone through. Conditions: the key's type is one of which the kit knows 'Keyed'. Frames: nothing but blocks of a set, and new ones, has turned. No conditions. -/
import Derived.Maps.RangeWalk
import Derived.WalkKit
import Derived.WalkSmall
namespace Go.Wh
open Go.ChangeMaps (setBlock heap_setBlock_same heap_setBlock_other)
open Go.MapKept Go.RowKit
open Go.Maps (Keyed)

def upd {α β : Type} [DecidableEq α] (V : α → β) (a : α) (v : β) : α → β := fun x => if x = a then v else V x
theorem upd_same {α β : Type} [DecidableEq α] (V : α → β) (a : α) (v : β) : upd V a v a = v := by simp [upd]
theorem upd_other {α β : Type} [DecidableEq α] (V : α → β) {a x : α} (v : β) (h : x ≠ a) : upd V a v x = V x := by simp [upd, h]

section
variable {P : Program} {k : TypeId} {α : Type} {E : α → Value} {w : World} {b : Nat} {V : α → Option Value}

def kmap (w : World) (P : Program) (k : TypeId) (E : α → Value) (b : Nat) (V : α → Option Value) : Prop :=
 ∃ es clock, w.heap[b]? = some (.map es clock) ∧ Stamped es clock ∧ (∀ x ∈ es.toList, ∃ l, keyOf P k x.key = some l) ∧ (∀ x ∈ es.toList, ∃ a, x.key = E a) ∧
  ∀ a v, V a = some v ↔ ∃ x ∈ es.toList, x.key = E a ∧ x.val = v

theorem kmap.lt (h : kmap w P k E b V) : b < w.heap.size := by
 obtain ⟨es, clock, hb, _⟩ := h
 exact (Array.getElem?_eq_some_iff.1 hb).1

theorem kmap_made (w : World) (P : Program) (k : TypeId) (E : α → Value) : kmap (w.alloc (.map #[] 0)) P k E w.heap.size (fun _ => none) :=
 ⟨#[], 0, (MapKept.heap_alloc w _).1, stamped_empty 0, by simp, by simp, by simp⟩

theorem kmap.block {w' : World} (h : kmap w P k E b V) (hg : w'.heap[b]? = w.heap[b]?) : kmap w' P k E b V := by
 obtain ⟨es, clock, hb, r⟩ := h
 exact ⟨es, clock, hg.trans hb, r⟩

theorem kmap.kept {w' : World} {row : Option Nat} (h : kmap w P k E b V) (hg : w.grownBy w' row) (hne : some b ≠ row) : kmap w' P k E b V :=
 h.block (hg.block b h.lt hne)

theorem kmap.ext {V' : α → Option Value} (h : kmap w P k E b V) (hv : ∀ a, V a = V' a) : kmap w P k E b V' := by
 have : V = V' := funext hv
 rw [← this]
 exact h

theorem key_unique {es : Array MapEntry} {clock : Nat} (hst : Stamped es clock) {x y : MapEntry} (hx : x ∈ es.toList) (hy : y ∈ es.toList) (h : x.key = y.key) : x = y :=
 entry_eq_of_key ((stamped_iff es clock).1 hst).2.2 hx hy h

theorem kmap.lookup {t e : TypeId} (h : kmap w P k E b V) (K : Keyed P k) (ht : P.underlying t = some (.map k e)) {a : α} {l : Lit} (hkey : keyOf P k (E a) = some l) {z : Value} (hz : (zeroValue e).run P w = .ok z w) (c : Bool) :
 (Instr.lookup t (.map (some b)) (E a) c).run P w = .ok (if c then .tuple #[(V a).getD z, .bool (V a).isSome] else (V a).getD z) w := by
 obtain ⟨es, clock, hb, hst, hks, hE, hV⟩ := h
 rcases K.find w hkey es.toList hks with ⟨h1, h2⟩ | ⟨j, e0, h1, h2, h3⟩
 · have hn : V a = none := by
    cases hva : V a with
    | none => rfl
    | some v =>
     obtain ⟨x, hx, hxk, _⟩ := (hV a v).1 hva
     exact absurd hxk (h2 x hx)
   simp [Instr.lookup, run_underlying ht, MapKept.run_getObj_map hb, K.check w _ hkey, h1, hz, Result.andThen, hn]
 · have hs : V a = some e0.val := (hV a e0.val).2 ⟨e0, List.mem_of_getElem? h2, h3, rfl⟩
   simp [Instr.lookup, run_underlying ht, MapKept.run_getObj_map hb, K.check w _ hkey, h1, Result.andThen, hs]

theorem kmap.update [DecidableEq α] {t e : TypeId} (h : kmap w P k E b V) (K : Keyed P k) (hE : ∀ x y, E x = E y → x = y) (ht : P.underlying t = some (.map k e)) {a : α} {l : Lit} (hkey : keyOf P k (E a) = some l) (val : Value) :
 ∃ w', (Instr.mapUpdate t (.map (some b)) (E a) val).run P w = .ok () w' ∧ kmap w' P k E b (upd V a (some val)) ∧ w.grownBy w' (some b) ∧ w'.heap.size = w.heap.size := by
 obtain ⟨es, clock, hb, hst, hks, hEs, hV⟩ := h
 have hgrow : ∀ es' clock', w.grownBy (setBlock w b (.map es' clock')) (some b) := fun es' clock' =>
  ⟨rfl, rfl, rfl, by simp [setBlock], fun i _ hi => heap_setBlock_other hb _ (fun e => hi (by rw [e]))⟩
 rcases K.find w hkey es.toList hks with ⟨h1, h2⟩ | ⟨j, e0, h1, h2, h3⟩
 · refine ⟨setBlock w b (.map (es.push ⟨E a, val, clock⟩) (clock + 1)), ?_, ⟨es.push ⟨E a, val, clock⟩, clock + 1, heap_setBlock_same hb _, stamped_push hst h2, ?_, ?_, ?_⟩, hgrow _ _, by simp [setBlock]⟩
   · simp [Instr.mapUpdate, run_underlying ht, MapKept.run_getObj_map hb, K.check w false hkey, h1, MapKept.run_setObj_map _ hb, Result.andThen, setBlock]
   · intro x hx
     simp only [Array.toList_push, List.mem_append, List.mem_singleton] at hx
     rcases hx with hx | rfl
     · exact hks x hx
     · exact ⟨l, hkey⟩
   · intro x hx
     simp only [Array.toList_push, List.mem_append, List.mem_singleton] at hx
     rcases hx with hx | rfl
     · exact hEs x hx
     · exact ⟨a, rfl⟩
   · intro x v
     simp only [Array.toList_push, List.mem_append, List.mem_singleton]
     by_cases hxa : x = a
     · subst hxa
       simp only [upd_same]
       constructor
       · intro hv
         exact ⟨_, .inr rfl, rfl, by simpa using hv⟩
       · rintro ⟨y, hy | rfl, hyk, rfl⟩
         · exact absurd hyk (h2 y hy)
         · rfl
     · rw [upd_other V _ hxa]
       rw [hV x v]
       constructor
       · rintro ⟨y, hy, r⟩
         exact ⟨y, .inl hy, r⟩
       · rintro ⟨y, hy | rfl, hyk, hyv⟩
         · exact ⟨y, hy, hyk, hyv⟩
         · exact absurd (hE _ _ hyk).symm hxa
 · have hj : es[j]? = some e0 := by simpa using h2
   have hjl : j < es.size := (Array.getElem?_eq_some_iff.1 hj).1
   have hkeep : (Instr.keyThatStays (((es[j]?).map (·.key)).getD (E a)) (E a)).run P w = .ok (E a) w := by
    rw [hj]
    show (Instr.keyThatStays e0.key (E a)).run P w = _
    rw [h3]
    exact K.stays w hkey
   have hmod : ∀ x, x ∈ (es.modify j fun e => { e with key := E a, val := val }).toList ↔ (x ∈ es.toList ∧ x.key ≠ E a) ∨ x = { e0 with key := E a, val := val } := by
    intro x
    rw [show (es.modify j fun e => { e with key := E a, val := val }).toList = es.toList.set j { e0 with key := E a, val := val } from by
     apply List.ext_getElem?
     intro i
     rw [Array.getElem?_toList, Array.getElem?_modify, List.getElem?_set, Array.getElem?_toList]
     by_cases hij : j = i
     · subst hij
       simp [hjl, (Array.getElem?_eq_some_iff.1 hj).2]
     · simp [hij]]
    constructor
    · intro hx
      obtain ⟨i, hi⟩ := List.getElem?_of_mem hx
      rw [List.getElem?_set] at hi
      by_cases hij : j = i
      · subst hij
        simp [hjl] at hi
        exact .inr hi.symm
      · rw [if_neg hij] at hi
        refine .inl ⟨List.mem_of_getElem? hi, fun hk => ?_⟩
        have hxe : x = e0 := key_unique hst (List.mem_of_getElem? hi) (List.mem_of_getElem? h2) (hk.trans h3.symm)
        subst hxe
        have hn := ((stamped_iff es clock).1 hst).2.1
        obtain ⟨hi1, hi2⟩ := List.getElem?_eq_some_iff.1 hi
        obtain ⟨hj1, hj2⟩ := List.getElem?_eq_some_iff.1 h2
        have hb1 : (es.toList.map (·.born))[j]'(by simpa using hj1) = (es.toList.map (·.born))[i]'(by simpa using hi1) := by
         rw [List.getElem_map, List.getElem_map, hi2, hj2]
        exact hij ((List.getElem_inj hn).1 hb1)
    · rintro (⟨hx, hk⟩ | rfl)
      · obtain ⟨i, hi⟩ := List.getElem?_of_mem hx
        refine List.mem_of_getElem? (i := i) ?_
        rw [List.getElem?_set]
        by_cases hij : j = i
        · subst hij
          rw [h2] at hi
          cases hi
          exact absurd h3 hk
        · rw [if_neg hij]
          exact hi
      · refine List.mem_of_getElem? (i := j) ?_
        rw [List.getElem?_set]
        simp [hjl]
   refine ⟨setBlock w b (.map (es.modify j fun e => { e with key := E a, val := val }) clock), ?_, ⟨_, clock, heap_setBlock_same hb _, ?_, ?_, ?_, ?_⟩, hgrow _ _, by simp [setBlock]⟩
   · simp [Instr.mapUpdate, run_underlying ht, MapKept.run_getObj_map hb, K.check w false hkey, h1, hkeep, MapKept.run_setObj_map _ hb, Result.andThen, setBlock]
   · exact stamped_modify hst j _ (fun _ _ => rfl) (fun e he hje => by
      rw [hj] at hje
      cases hje
      exact h3.symm)
   · intro x hx
     rcases (hmod x).1 hx with ⟨hx, _⟩ | rfl
     · exact hks x hx
     · exact ⟨l, hkey⟩
   · intro x hx
     rcases (hmod x).1 hx with ⟨hx, _⟩ | rfl
     · exact hEs x hx
     · exact ⟨a, rfl⟩
   · intro x v
     by_cases hxa : x = a
     · subst hxa
       simp only [upd_same]
       constructor
       · intro hv
         exact ⟨_, (hmod _).2 (.inr rfl), rfl, by simpa using hv⟩
       · rintro ⟨y, hy, hyk, rfl⟩
         rcases (hmod y).1 hy with ⟨_, hk⟩ | rfl
         · exact absurd hyk hk
         · rfl
     · rw [upd_other V _ hxa]
       rw [hV x v]
       constructor
       · rintro ⟨y, hy, hyk, hyv⟩
         exact ⟨y, (hmod y).2 (.inl ⟨hy, fun hk => hxa (hE _ _ (hyk.symm.trans hk))⟩), hyk, hyv⟩
       · rintro ⟨y, hy, hyk, hyv⟩
         rcases (hmod y).1 hy with ⟨hy, _⟩ | rfl
         · exact ⟨y, hy, hyk, hyv⟩
         · exact absurd (hE _ _ hyk).symm hxa

theorem drop_who {t e ty : TypeId} {es : Array MapEntry} {clock : Nat} (K : Keyed P k) (ht : P.underlying t = some (.map k e)) (hb : w.heap[b]? = some (.map es clock)) (hst : Stamped es clock) (hks : ∀ x ∈ es.toList, ∃ l, keyOf P k x.key = some l) {key : Value} {kl : Lit} (hkey : keyOf P k key = some kl) :
 ∃ es', (Builtin.delete_ #[t, k] ty #[.map (some b), key]).run P w = .ok (.tuple #[]) (setBlock w b (.map es' clock)) ∧ Stamped es' clock ∧ es'.toList.Sublist es.toList ∧ ∀ x, x ∈ es'.toList ↔ (x ∈ es.toList ∧ x.key ≠ key) := by
 rcases K.find w hkey es.toList hks with ⟨h1, h2⟩ | ⟨j, e0, h1, h2, h3⟩
 · refine ⟨es, ?_, hst, List.Sublist.refl _, fun x => ⟨fun hx => ⟨hx, h2 x hx⟩, fun hx => hx.1⟩⟩
   simp [Builtin.delete_, run_underlying ht, MapKept.run_getObj_map hb, K.check w _ hkey, h1, MapKept.run_setObj_map _ hb, Result.andThen, setBlock]
 · have hjl : j < es.toList.length := (List.getElem?_eq_some_iff.1 h2).1
   have hjs : j < es.size := by simpa using hjl
   have hsub : (es.eraseIdxIfInBounds j).toList = es.toList.eraseIdx j := by
    unfold Array.eraseIdxIfInBounds
    rw [dif_pos hjs]
    simp
   refine ⟨es.eraseIdxIfInBounds j, ?_, stamped_erase hst j, by rw [hsub]; exact List.eraseIdx_sublist _ _, fun x => ?_⟩
   · simp [Builtin.delete_, run_underlying ht, MapKept.run_getObj_map hb, K.check w _ hkey, h1, MapKept.run_setObj_map _ hb, Result.andThen, setBlock]
   · rw [hsub, List.mem_eraseIdx_iff_getElem?]
     constructor
     · rintro ⟨i, hne, hi⟩
       refine ⟨List.mem_of_getElem? hi, fun hk => ?_⟩
       have hxe : x = e0 := key_unique hst (List.mem_of_getElem? hi) (List.mem_of_getElem? h2) (hk.trans h3.symm)
       subst hxe
       have hn := ((stamped_iff es clock).1 hst).2.1
       obtain ⟨hi1, hi2⟩ := List.getElem?_eq_some_iff.1 hi
       obtain ⟨hj1, hj2⟩ := List.getElem?_eq_some_iff.1 h2
       have hb1 : (es.toList.map (·.born))[i]'(by simpa using hi1) = (es.toList.map (·.born))[j]'(by simpa using hj1) := by
        rw [List.getElem_map, List.getElem_map, hi2, hj2]
       exact hne ((List.getElem_inj hn).1 hb1)
     · rintro ⟨hx, hne⟩
       obtain ⟨i, hi⟩ := List.getElem?_of_mem hx
       refine ⟨i, fun e1 => hne ?_, hi⟩
       rw [e1, h2] at hi
       cases hi
       exact h3

theorem kmap.delete [DecidableEq α] {t e ty : TypeId} (h : kmap w P k E b V) (K : Keyed P k) (hE : ∀ x y, E x = E y → x = y) (ht : P.underlying t = some (.map k e)) {a : α} {l : Lit} (hkey : keyOf P k (E a) = some l) :
 ∃ w', (Builtin.delete_ #[t, k] ty #[.map (some b), E a]).run P w = .ok (.tuple #[]) w' ∧ kmap w' P k E b (upd V a none) ∧ w.grownBy w' (some b) ∧ w'.heap.size = w.heap.size := by
 obtain ⟨es, clock, hb, hst, hks, hEs, hV⟩ := h
 obtain ⟨es', hrun, hst', _, hwho⟩ := drop_who (ty := ty) K ht hb hst hks hkey
 refine ⟨_, hrun, ⟨es', clock, heap_setBlock_same hb _, hst', fun x hx => hks x ((hwho x).1 hx).1, fun x hx => hEs x ((hwho x).1 hx).1, fun x v => ?_⟩,
  ⟨rfl, rfl, rfl, by simp [setBlock], fun i _ hi => heap_setBlock_other hb _ (fun e => hi (by rw [e]))⟩, by simp [setBlock]⟩
 by_cases hxa : x = a
 · subst hxa
   simp only [upd_same]
   constructor
   · intro h; cases h
   · rintro ⟨y, hy, hyk, _⟩
     exact absurd hyk ((hwho y).1 hy).2
 · rw [upd_other V _ hxa]
   rw [hV x v]
   constructor
   · rintro ⟨y, hy, hyk, hyv⟩
     exact ⟨y, (hwho y).2 ⟨hy, fun hk => hxa (hE _ _ (hyk.symm.trans hk))⟩, hyk, hyv⟩
   · rintro ⟨y, hy, hyk, hyv⟩
     exact ⟨y, ((hwho y).1 hy).1, hyk, hyv⟩

/-! Going through a map. -/

def kranges (w : World) (P : Program) (k : TypeId) (E : α → Value) (b r : Nat) (V : α → Option Value) (left : α → Prop) (cnt : Nat) : Prop :=
 ∃ es clock since seen c0, w.heap[b]? = some (.map es clock) ∧ Stamped es clock ∧ (∀ x ∈ es.toList, ∃ l, keyOf P k x.key = some l) ∧ (∀ x ∈ es.toList, ∃ a, x.key = E a) ∧
  (∀ a v, V a = some v ↔ ∃ x ∈ es.toList, x.key = E a ∧ x.val = v) ∧
  w.heap[r]? = some (.mapIter (some b) since seen c0) ∧ (∀ x ∈ es.toList, x.born < since) ∧ (leftOf es seen).size = cnt ∧
  (∀ a, left a ↔ ∃ x ∈ es.toList, x.key = E a ∧ seen.contains x.born = false) ∧ since ≤ c0 ∧ since ≤ clock

theorem kranges.kmap {r cnt : Nat} {left : α → Prop} (h : kranges w P k E b r V left cnt) : kmap w P k E b V := by
 obtain ⟨es, clock, since, seen, c0, hb, h1, h2, h3, h4, _⟩ := h
 exact ⟨es, clock, hb, h1, h2, h3, h4⟩

theorem kranges.ne {r cnt : Nat} {left : α → Prop} (h : kranges w P k E b r V left cnt) : r ≠ b := by
 obtain ⟨es, clock, since, seen, c0, hb, _, _, _, _, hr, _⟩ := h
 intro e
 rw [e, hb] at hr
 cases hr

theorem kranges.lt {r cnt : Nat} {left : α → Prop} (h : kranges w P k E b r V left cnt) : r < w.heap.size := by
 obtain ⟨es, clock, since, seen, c0, hb, _, _, _, _, hr, _⟩ := h
 exact (Array.getElem?_eq_some_iff.1 hr).1

theorem kranges.left_eq {r cnt : Nat} {left : α → Prop} (h : kranges w P k E b r V left cnt) : w.rangeLeft b r = cnt := by
 obtain ⟨es, clock, since, seen, c0, hb, _, _, _, _, hr, _, hc, _⟩ := h
 simp only [World.rangeLeft, hb, hr]
 exact hc

theorem kranges.kept {w' : World} {row : Option Nat} {r cnt : Nat} {left : α → Prop} (h : kranges w P k E b r V left cnt) (hg : w.grownBy w' row) (hb' : some b ≠ row) (hr' : some r ≠ row) : kranges w' P k E b r V left cnt := by
 have h1 := h.kmap.lt
 have h2 := h.lt
 obtain ⟨es, clock, since, seen, c0, hb, a1, a2, a3, a4, hr, rest⟩ := h
 exact ⟨es, clock, since, seen, c0, (hg.block b h1 hb').trans hb, a1, a2, a3, a4, (hg.block r h2 hr').trans hr, rest⟩

theorem kmap.range {t e : TypeId} (h : kmap w P k E b V) (ht : P.underlying t = some (.map k e)) :
 ∃ w' cnt, (Instr.range t (.map (some b))).run P w = .ok (.pointer (some ⟨w.heap.size, 0, none⟩)) w' ∧ kranges w' P k E b w.heap.size V (fun a => ∃ v, V a = some v) cnt ∧ w.grownBy w' none ∧ w'.heap.size = w.heap.size + 1 := by
 have hlt := h.lt
 obtain ⟨es, clock, hb, hst, hks, hEs, hV⟩ := h
 refine ⟨_, _, run_range_map w t k e b es clock ht hb, ⟨es, clock, clock, #[], clock, ((MapKept.heap_alloc w _).2 b hlt).trans hb, hst, hks, hEs, hV, (MapKept.heap_alloc w _).1, hst.1, rfl, ?_, Nat.le_refl _, Nat.le_refl _⟩, World.grownBy_alloc w _ none, by simp⟩
 intro a
 constructor
 · rintro ⟨v, hv⟩
   obtain ⟨x, hx, hxk, _⟩ := (hV a v).1 hv
   exact ⟨x, hx, hxk, by simp⟩
 · rintro ⟨x, hx, hxk, _⟩
   exact ⟨x.val, (hV a x.val).2 ⟨x, hx, hxk, rfl⟩⟩

theorem kranges.next {r cnt : Nat} {left : α → Prop} (h : kranges w P k E b r V left cnt) (hE : ∀ x y, E x = E y → x = y) (ty : TypeId) :
 (cnt = 0 ∧ (∀ a, ¬ left a) ∧ (Instr.next (.pointer (some ⟨r, 0, none⟩)) false ty).run P w = .ok (.tuple #[.bool false]) w) ∨
 ∃ a v l w' cnt', keyOf P k (E a) = some l ∧ left a ∧ V a = some v ∧ (Instr.next (.pointer (some ⟨r, 0, none⟩)) false ty).run P w = .ok (.tuple #[.bool true, E a, v]) w' ∧
  kranges w' P k E b r V (fun x => left x ∧ x ≠ a) cnt' ∧ cnt' < cnt ∧ w.grownBy w' (some r) ∧ w'.heap.size = w.heap.size ∧ (Instr.entry (.pointer (some ⟨r, 0, none⟩))).run P w' = .ok (.tuple #[E a, v]) w' := by
 have hne := h.ne
 obtain ⟨es, clock, since, seen, c0, hb, hst, hks, hEs, hV, hr, hold, rfl, hl, hsc, hsk⟩ := h
 rcases run_next_at (P := P) w ty r b since c0 seen es clock hr hb hold hsc with ⟨h0, hrun⟩ | ⟨e, he, w1, hal, hrun⟩
 · refine Or.inl ⟨h0, fun a ha => ?_, hrun⟩
   obtain ⟨x, hx, _, hs⟩ := (hl a).1 ha
   rw [all_seen es seen h0 x hx] at hs
   cases hs
 · obtain ⟨hem, hes⟩ := mem_left he
   obtain ⟨a, hea⟩ := hEs e hem
   obtain ⟨l, hkl⟩ := hks e hem
   have hr1 : w1.heap[r]? = some (.mapIter (some b) since seen c0) := by rcases hal with rfl | rfl <;> exact hr
   have hb1 : w1.heap[b]? = some (.map es clock) := by rcases hal with rfl | rfl <;> exact hb
   have hset := heap_set (o' := .mapIter (some b) since (seen.push e.born) clock) hr1
   have hb' : (setBlock w1 r (.mapIter (some b) since (seen.push e.born) clock)).heap[b]? = some (.map es clock) := (hset.2 b (fun e1 => hne e1.symm)).trans hb1
   refine Or.inr ⟨a, e.val, l, _, _, by rw [← hea]; exact hkl, (hl a).2 ⟨e, hem, hea, hes⟩, (hV a e.val).2 ⟨e, hem, hea, rfl⟩, by rw [← hea]; exact hrun,
    ⟨es, clock, since, seen.push e.born, clock, hb', hst, hks, hEs, hV, hset.1, hold, rfl, fun x => ?_, hsk, hsk⟩, left_shrinks es seen e he, ?_, ?_,
    by rw [← hea]; exact run_entry_at _ r b since seen es clock e hset.1 hb' hem ((stamped_iff es clock).1 hst).2.1⟩
   · constructor
     · rintro ⟨hlx, hxa⟩
       obtain ⟨y, hy, hyk, hys⟩ := (hl x).1 hlx
       refine ⟨y, hy, hyk, ?_⟩
       rw [contains_push, hys, Bool.false_or, beq_eq_false_iff_ne]
       intro hbe
       have := born_inj ((stamped_iff es clock).1 hst).2.1 hy hem hbe
       subst this
       exact hxa (hE _ _ (hyk.symm.trans hea))
     · rintro ⟨y, hy, hyk, hys⟩
       rw [contains_push, Bool.or_eq_false_iff, beq_eq_false_iff_ne] at hys
       refine ⟨(hl x).2 ⟨y, hy, hyk, hys.1⟩, fun hxa => hys.2 ?_⟩
       subst hxa
       rw [key_unique hst hy hem (hyk.trans hea.symm)]
   · rcases hal with rfl | rfl <;> exact ⟨rfl, rfl, rfl, by simp [setBlock], fun i _ hi => hset.2 i (fun e1 => hi (by rw [e1]))⟩
   · rcases hal with rfl | rfl <;> simp [setBlock]

theorem leftOf_sub_le {es es' : Array MapEntry} (seen : Array Nat) (h : es'.toList.Sublist es.toList) : (leftOf es' seen).size ≤ (leftOf es seen).size := by
 have h1 : (leftOf es' seen).toList.Sublist (leftOf es seen).toList := by
  unfold leftOf
  rw [Array.toList_filter, Array.toList_filter]
  exact h.filter _
 simpa using h1.length_le

theorem kranges.drop [DecidableEq α] {t e ty : TypeId} {r cnt : Nat} {left : α → Prop} (h : kranges w P k E b r V left cnt) (K : Keyed P k) (hE : ∀ x y, E x = E y → x = y) (ht : P.underlying t = some (.map k e)) {a : α} {l : Lit} (hkey : keyOf P k (E a) = some l) :
 ∃ w' cnt', (Builtin.delete_ #[t, k] ty #[.map (some b), E a]).run P w = .ok (.tuple #[]) w' ∧ kranges w' P k E b r (upd V a none) (fun x => left x ∧ x ≠ a) cnt' ∧ cnt' ≤ cnt ∧ w.grownBy w' (some b) ∧ w'.heap.size = w.heap.size := by
 have hne := h.ne
 obtain ⟨es, clock, since, seen, c0, hb, hst, hks, hEs, hV, hr, hold, rfl, hl, hsc, hsk⟩ := h
 obtain ⟨es', hrun, hst', hsub, hwho⟩ := drop_who (ty := ty) K ht hb hst hks hkey
 refine ⟨_, _, hrun, ⟨es', clock, since, seen, c0, heap_setBlock_same hb _, hst', fun x hx => hks x ((hwho x).1 hx).1, fun x hx => hEs x ((hwho x).1 hx).1, fun x v => ?_,
  (heap_setBlock_other hb _ hne).trans hr, fun x hx => hold x ((hwho x).1 hx).1, rfl, fun x => ?_, hsc, hsk⟩, leftOf_sub_le seen hsub,
  ⟨rfl, rfl, rfl, by simp [setBlock], fun i _ hi => heap_setBlock_other hb _ (fun e => hi (by rw [e]))⟩, by simp [setBlock]⟩
 · by_cases hxa : x = a
   · subst hxa
     simp only [upd_same]
     constructor
     · intro h; cases h
     · rintro ⟨y, hy, hyk, _⟩
       exact absurd hyk ((hwho y).1 hy).2
   · rw [upd_other V _ hxa]
     rw [hV x v]
     constructor
     · rintro ⟨y, hy, hyk, hyv⟩
       exact ⟨y, (hwho y).2 ⟨hy, fun hk => hxa (hE _ _ (hyk.symm.trans hk))⟩, hyk, hyv⟩
     · rintro ⟨y, hy, hyk, hyv⟩
       exact ⟨y, ((hwho y).1 hy).1, hyk, hyv⟩
 · constructor
   · rintro ⟨hlx, hxa⟩
     obtain ⟨y, hy, hyk, hys⟩ := (hl x).1 hlx
     exact ⟨y, (hwho y).2 ⟨hy, fun hk => hxa (hE _ _ (hyk.symm.trans hk))⟩, hyk, hys⟩
   · rintro ⟨y, hy, hyk, hys⟩
     exact ⟨(hl x).2 ⟨y, ((hwho y).1 hy).1, hyk, hys⟩, fun hxa => ((hwho y).1 hy).2 (by rw [hyk, hxa])⟩

/-! At an operation of a walk. -/
section
variable {ops : Array Oper} {rest : List Oper} {o : Oper} {a : Act} {Q : Exit → Act → World → Prop}

theorem wpList_mapUpdate_k [DecidableEq α] (hg : o.guard = none) (m x v : Operand) (t : TypeId) (hop : o.op = Op.mapUpdate t m x v) (e : TypeId) (K : Keyed P k) (hE : ∀ x y, E x = E y → x = y) (ht : P.underlying t = some (.map k e))
 (hm : a.eval m = .map (some b)) (h : kmap w P k E b V) (key : α) (hx : a.eval x = E key) (hkey : ∃ l, keyOf P k (E key) = some l) (val : Value) (hv : a.eval v = val)
 (hK : ∀ w', kmap w' P k E b (upd V key (some val)) → w.grownBy w' (some b) → w'.heap.size = w.heap.size → wpList P ops Q rest (a.put o.dst undef) w') : wpList P ops Q (o :: rest) a w := by
 obtain ⟨l, hkey⟩ := hkey
 refine wpList_plain hg fun K' hK' => ?_
 obtain ⟨w', hrun, r1, r2, r3⟩ := h.update K hE ht hkey val
 unfold Oper.wp
 simp [execOp, hop, hm, hx, hv, hrun, Result.andThen]
 exact hK' _ _ (hK w' r1 r2 r3)

theorem wpList_delete_k [DecidableEq α] (hg : o.guard = none) (m x : Operand) (t : TypeId) (hop : o.op = Op.call { callee := Callee.builtin Builtin.delete, args := #[m, x], argTypes := #[t, k] }) (e : TypeId) (K : Keyed P k) (hE : ∀ x y, E x = E y → x = y) (ht : P.underlying t = some (.map k e))
 (hm : a.eval m = .map (some b)) (h : kmap w P k E b V) (key : α) (hx : a.eval x = E key) (hkey : ∃ l, keyOf P k (E key) = some l)
 (hK : ∀ w', kmap w' P k E b (upd V key none) → w.grownBy w' (some b) → w'.heap.size = w.heap.size → wpList P ops Q rest (a.put o.dst (.tuple #[])) w') : wpList P ops Q (o :: rest) a w := by
 obtain ⟨l, hkey⟩ := hkey
 refine wpList_plain hg fun K' hK' => ?_
 obtain ⟨w', hrun, r1, r2, r3⟩ := h.delete (ty := o.type) K hE ht hkey
 unfold Oper.wp
 simp [execOp, hop, resolve, invoke, builtin, hm, hx, hrun, Result.andThen]
 exact hK' _ _ (hK w' r1 r2 r3)

theorem wpList_lookup_k (hg : o.guard = none) (m x : Operand) (t : TypeId) (c : Bool) (hop : o.op = Op.lookup t m x c) (e : TypeId) (K : Keyed P k) (ht : P.underlying t = some (.map k e)) {z : Value} (hz : (zeroValue e).run P w = .ok z w)
 (hm : a.eval m = .map (some b)) (h : kmap w P k E b V) (key : α) (hx : a.eval x = E key) (hkey : ∃ l, keyOf P k (E key) = some l)
 (hK : wpList P ops Q rest (a.put o.dst (if c then .tuple #[(V key).getD z, .bool (V key).isSome] else (V key).getD z)) w) : wpList P ops Q (o :: rest) a w := by
 obtain ⟨l, hkey⟩ := hkey
 refine wpList_plain hg fun K' hK' => ?_
 have hrun := h.lookup K ht hkey hz c
 unfold Oper.wp
 simp [execOp, hop, hm, hx, hrun, Result.andThen]
 exact hK' _ _ hK

theorem wpList_range_k (hg : o.guard = none) (m : Operand) (t : TypeId) (hop : o.op = Op.range t m) (e : TypeId) (ht : P.underlying t = some (.map k e)) (hm : a.eval m = .map (some b)) (h : kmap w P k E b V)
 (hK : ∀ w' cnt, kranges w' P k E b w.heap.size V (fun a => ∃ v, V a = some v) cnt → w.grownBy w' none → w'.heap.size = w.heap.size + 1 → wpList P ops Q rest (a.put o.dst (.pointer (some ⟨w.heap.size, 0, none⟩))) w') :
 wpList P ops Q (o :: rest) a w := by
 refine wpList_plain hg fun K' hK' => ?_
 obtain ⟨w', cnt, hrun, r1, r2, r3⟩ := h.range ht
 unfold Oper.wp
 simp [execOp, hop, hm, hrun, Result.andThen]
 exact hK' _ _ (hK w' cnt r1 r2 r3)

theorem wpList_next_k (hg : o.guard = none) (it : Operand) (hop : o.op = Op.next it false) (hE : ∀ x y, E x = E y → x = y) {r cnt : Nat} {left : α → Prop}
 (hit : a.eval it = .pointer (some ⟨r, 0, none⟩)) (h : kranges w P k E b r V left cnt)
 (hDone : cnt = 0 → (∀ x, ¬ left x) → wpList P ops Q rest (a.put o.dst (.tuple #[.bool false])) w)
 (hMore : ∀ (x : α) (v : Value) (w' : World) (cnt' : Nat), (∃ l, keyOf P k (E x) = some l) → left x → V x = some v → kranges w' P k E b r V (fun y => left y ∧ y ≠ x) cnt' → cnt' < cnt → w.grownBy w' (some r) → w'.heap.size = w.heap.size →
  (Instr.entry (.pointer (some ⟨r, 0, none⟩))).run P w' = .ok (.tuple #[E x, v]) w' → wpList P ops Q rest (a.put o.dst (.tuple #[.bool true, E x, v])) w') :
 wpList P ops Q (o :: rest) a w := by
 refine wpList_plain hg fun K' hK' => ?_
 unfold Oper.wp
 rcases h.next hE o.type with ⟨h0, hl, hrun⟩ | ⟨x, v, l, w', cnt', hkey, hlk, hv, hrun, hrg, hlt, hgr, hsz, hen⟩
 · simp [execOp, hop, hit, hrun, Result.andThen]
   exact hK' _ _ (hDone h0 hl)
 · simp [execOp, hop, hit, hrun, Result.andThen]
   exact hK' _ _ (hMore x v w' cnt' ⟨l, hkey⟩ hlk hv hrg hlt hgr hsz hen)

theorem wpList_drop_k [DecidableEq α] (hg : o.guard = none) (m x : Operand) (t : TypeId) (hop : o.op = Op.call { callee := Callee.builtin Builtin.delete, args := #[m, x], argTypes := #[t, k] }) (e : TypeId) (K : Keyed P k) (hE : ∀ x y, E x = E y → x = y) (ht : P.underlying t = some (.map k e))
 {r cnt : Nat} {left : α → Prop} (hm : a.eval m = .map (some b)) (h : kranges w P k E b r V left cnt) (key : α) (hx : a.eval x = E key) (hkey : ∃ l, keyOf P k (E key) = some l)
 (hK : ∀ w' cnt', kranges w' P k E b r (upd V key none) (fun x => left x ∧ x ≠ key) cnt' → cnt' ≤ cnt → w.grownBy w' (some b) → w'.heap.size = w.heap.size → wpList P ops Q rest (a.put o.dst (.tuple #[])) w') : wpList P ops Q (o :: rest) a w := by
 obtain ⟨l, hkey⟩ := hkey
 refine wpList_plain hg fun K' hK' => ?_
 obtain ⟨w', cnt', hrun, r0, r1, r2, r3⟩ := h.drop (ty := o.type) K hE ht hkey
 unfold Oper.wp
 simp [execOp, hop, resolve, invoke, builtin, hm, hx, hrun, Result.andThen]
 exact hK' _ _ (hK w' cnt' r0 r1 r2 r3)
end
end
end Go.Wh

namespace Go.Wh
open Go.RowKit

structure Only (S : Nat → Prop) (w w' : World) : Prop where
 os : w'.os = w.os
 tape : w'.tape = w.tape
 output : w'.output = w.output
 size : w.heap.size ≤ w'.heap.size
 block : ∀ k, k < w.heap.size → ¬ S k → w'.heap[k]? = w.heap[k]?

theorem Only.refl (S : Nat → Prop) (w : World) : Only S w w := ⟨rfl, rfl, rfl, Nat.le_refl _, fun _ _ _ => rfl⟩
theorem Only.trans {S : Nat → Prop} {a b c : World} (h : Only S a b) (k : Only S b c) : Only S a c :=
 ⟨k.os.trans h.os, k.tape.trans h.tape, k.output.trans h.output, Nat.le_trans h.size k.size, fun i hi hs => (k.block i (Nat.lt_of_lt_of_le hi h.size) hs).trans (h.block i hi hs)⟩
theorem Only.andThen {S T : Nat → Prop} {a b c : World} (h : Only S a b) (k : Only T b c) (ht : ∀ i, i < a.heap.size → T i → S i) : Only S a c :=
 ⟨k.os.trans h.os, k.tape.trans h.tape, k.output.trans h.output, Nat.le_trans h.size k.size, fun i hi hs => (k.block i (Nat.lt_of_lt_of_le hi h.size) (fun t => hs (ht i hi t))).trans (h.block i hi hs)⟩
theorem Only.mono {S T : Nat → Prop} {a b : World} (h : Only S a b) (ht : ∀ i, S i → T i) : Only T a b :=
 ⟨h.os, h.tape, h.output, h.size, fun i hi hs => h.block i hi (fun s => hs (ht i s))⟩
theorem Only.drew {S : Nat → Prop} {a b : World} (h : Only S a b) : Only S a b.drew := ⟨h.os, h.tape, h.output, h.size, h.block⟩
theorem Only.undrew {S : Nat → Prop} {a b : World} (h : Only S a.drew b) : Only S a b := ⟨h.os, h.tape, h.output, h.size, h.block⟩
theorem Only.drewN {S : Nat → Prop} {a b : World} (h : Only S a b) (n : Nat) : Only S a (b.drewN n) := ⟨h.os, h.tape, h.output, h.size, h.block⟩
theorem Only.alloc {S : Nat → Prop} {a b : World} (h : Only S a b) (o : Obj) : Only S a (b.alloc o) :=
 ⟨h.os, h.tape, h.output, Nat.le_trans h.size (by simp), fun i hi hs => (Below.heap_alloc b o i (Nat.lt_of_lt_of_le hi h.size)).trans (h.block i hi hs)⟩
theorem Only.setCell {S : Nat → Prop} {a b : World} (h : Only S a b) {p : Addr} (hp : S p.block ∨ a.heap.size ≤ p.block) (u : Value) : Only S a (b.setCell p u) :=
 ⟨h.os, h.tape, h.output, by simpa [World.setCell] using h.size, fun i hi hs => (Below.heap_setCell b p u i (by
  rintro rfl
  rcases hp with hp | hp
  · exact hs hp
  · omega)).trans (h.block i hi hs)⟩
theorem Only.grown {S : Nat → Prop} {a b : World} {row : Option Nat} (h : a.grownBy b row) (hr : ∀ j, row = some j → S j) : Only S a b :=
 ⟨h.os, h.tape, h.output, h.size, fun i hi hs => h.block i hi (fun e => hs (hr i e.symm))⟩
theorem Only.toGrown {g : Nat} {a b : World} (h : Only (fun k => k = g) a b) : a.grownBy b (some g) :=
 ⟨h.os, h.tape, h.output, h.size, fun i hi hs => h.block i hi (fun e => hs (by rw [e]))⟩
theorem Only.ofBelow {S : Nat → Prop} {a b : World} (h : Below a.heap.size a b) : Only S a b := ⟨h.os, h.tape, h.output, h.size, fun i hi _ => h.block i hi⟩
theorem Only.ofBelowAt {S : Nat → Prop} {B : Nat} {a b : World} (h : Below B a b) (hs : ∀ i, B ≤ i → S i) : Only S a b :=
 ⟨h.os, h.tape, h.output, h.size, fun i _ hn => h.block i (by
  rcases Nat.lt_or_ge i B with h1 | h1
  · exact h1
  · exact absurd (hs i h1) hn)⟩
theorem Only.below {S : Nat → Prop} {a b : World} (h : Only S a b) {B : Nat} (hB : B ≤ a.heap.size) (hs : ∀ i, i < B → ¬ S i) : Below B a b :=
 ⟨h.os, h.tape, h.output, h.size, fun i hi => h.block i (Nat.lt_of_lt_of_le hi hB) (hs i hi)⟩
theorem Only.cell {S : Nat → Prop} {a b : World} (h : Only S a b) {p : Addr} (hp : p.block < a.heap.size) (hs : ¬ S p.block) : b.cell? p = a.cell? p := World.cell?_of_block (w := a) (h.block p.block hp hs)
theorem Only.frozen {S : Nat → Prop} {a b : World} (h : Only S a b) {p : Addr} (hp : p.block < a.heap.size) (hs : ¬ S p.block) : b.frozen? p = a.frozen? p := World.frozen?_of_block (w := a) (h.block p.block hp hs)

theorem lt_of_cell {w : World} {r o : Nat} {v : Value} (h : w.cell? ⟨r, o, none⟩ = some v) : r < w.heap.size := World.block_lt_of_cell? _ _ h

def cellsAt (w : World) (r : Nat) (l : List Value) : Prop := ∃ t, w.heap[r]? = some (.cells l.toArray t (0, 0))
theorem cellsAt.lt {w : World} {r : Nat} {l : List Value} (h : cellsAt w r l) : r < w.heap.size := by
 obtain ⟨t, h⟩ := h
 exact (Array.getElem?_eq_some_iff.1 h).1
theorem cellsAt.cell {w : World} {r : Nat} {l : List Value} (h : cellsAt w r l) (i : Nat) : w.cell? ⟨r, i, none⟩ = l[i]? := by
 obtain ⟨t, h⟩ := h
 simp [World.cell?, h]
theorem cellsAt.free {w : World} {r : Nat} {l : List Value} (h : cellsAt w r l) (i : Nat) : w.frozen? ⟨r, i, none⟩ = false := by
 obtain ⟨t, h⟩ := h
 simp [World.frozen?, h]
theorem cellsAt.block {w w' : World} {r : Nat} {l : List Value} (h : cellsAt w r l) (hb : w'.heap[r]? = w.heap[r]?) : cellsAt w' r l := by
 obtain ⟨t, h⟩ := h
 exact ⟨t, hb.trans h⟩
theorem cellsAt.only {S : Nat → Prop} {w w' : World} {r : Nat} {l : List Value} (h : cellsAt w r l) (ho : Only S w w') (hs : ¬ S r) : cellsAt w' r l := h.block (ho.block r h.lt hs)
theorem cellsAt.below {B : Nat} {w w' : World} {r : Nat} {l : List Value} (h : cellsAt w r l) (ho : Below B w w') (hs : r < B) : cellsAt w' r l := h.block (ho.block r hs)
theorem cellsAt.drew {w : World} {r : Nat} {l : List Value} (h : cellsAt w r l) : cellsAt w.drew r l := h
theorem cellsAt_new (w : World) (l : List Value) (t : TypeId) : cellsAt (w.alloc (.cells l.toArray t)) w.heap.size l := ⟨t, heap_alloc_new w _⟩
theorem alloc_kept (w : World) (o : Obj) {r : Nat} (h : r < w.heap.size) : (w.alloc o).heap[r]? = w.heap[r]? := by
 show (w.heap.push o)[r]? = _
 rw [Array.getElem?_push_lt h, Array.getElem?_eq_getElem h]
theorem cellsAt.alloc {w : World} {r : Nat} {l : List Value} (h : cellsAt w r l) (o : Obj) : cellsAt (w.alloc o) r l := h.block (alloc_kept w o h.lt)
theorem cellsAt.setCell {w : World} {r : Nat} {l : List Value} (h : cellsAt w r l) (i : Nat) (u : Value) : cellsAt (w.setCell ⟨r, i, none⟩ u) r (l.set i u) := by
 obtain ⟨t, h⟩ := h
 refine ⟨t, ?_⟩
 have hr := (Array.getElem?_eq_some_iff.1 h)
 simp [World.setCell, Array.getElem?_modify, h]
theorem cellsAt.setOther {w : World} {r : Nat} {l : List Value} (h : cellsAt w r l) {p : Addr} (hp : r ≠ p.block) (u : Value) : cellsAt (w.setCell p u) r l := h.block (Below.heap_setCell w p u r hp)

theorem below_undrew {w w1 : World} (h : Below w.drew.heap.size w.drew w1) : Below w.heap.size w w1 := ⟨h.os, h.tape, h.output, h.size, h.block⟩
theorem below_drew {w : World} : Below w.heap.size w w.drew := ⟨rfl, rfl, rfl, Nat.le_refl _, fun _ _ => rfl⟩

theorem drew_alloc (w : World) (o : Obj) : w.drew.alloc o = (w.alloc o).drew := rfl
end Go.Wh
