/- A region that draws its order, whose last stores wait for all that was loaded: the loads are taken first under a condition that need not outlive those stores. No conditions. A region that draws its order, some of whose operations may come in many orders: what they leave is told by one relation, and each is looked at once. No conditions. The disk: write, sync, a new one. Conditions: it lies in memory, alive, nothing to be cut. The disk: sync, a new one. Conditions: it lies in memory, alive, nothing to be cut; at most two thousand tiles. Slices that are made and appended to in one region, in whatever order: each is what it must be, all lie apart. No conditions. Slices that are read: they lie in blocks of a set. No conditions. Bytes: whether they are equal; their two sums. Conditions: they lie in memory. A trail in memory; what a tile of it should say; how much room there is. Conditions: it lies in memory; a stream of at most a million bytes. A trail: what its tiles say. Conditions: it and the disk lie in memory; its tiles are the disk's, bytes. -/
import Derived.Test.YtlcfoeikamkpmaaGreatPr02
import Derived.Deep.RegionHeld3
import Derived.Maps.RangeWalk
import Derived.Laws.MakeOwn
import Derived.Deep.DeepCutAuto
import Derived.Deep.CutBlock
import Derived.Laws.BytesArg
import Derived.LoopTactic
namespace Go.Wh

section
variable {P : Program} {ops : Array Oper} {Q : Exit → Act → World → Prop} {md : Region.Mode} {S : World → Prop} {D : Nat → Bool}

def wpAnyD (P : Program) (md : Region.Mode) (ops : Array Oper) (Q : Exit → Act → World → Prop) (S : World → Prop) (D : Nat → Bool) : Nat → Array Bool → Act → World → Prop
 | 0, listed, a, w => Region.ready md ops listed = [] ∧ Q .normal a w
 | fuel + 1, listed, a, w =>
  (Region.ready md ops listed = [] → Q .normal a w) ∧
  ∀ i ∈ Region.ready md ops listed, wpOp P ops Q i (fun a' w' => (D i = false → S w') ∧ wpAnyD P md ops Q S D fuel (listed.setIfInBounds i true) a' w') a w

theorem wpAny_of_D : ∀ (fuel : Nat) (listed : Array Bool) (a : Act) (w : World), wpAnyD P md ops Q S D fuel listed a w → wpAny P md ops Q fuel listed a w
 | 0, _, _, _, h => h
 | fuel + 1, _, _, _, h => ⟨h.1, fun i hi => wpOp_mono (fun a' w' h' => wpAny_of_D fuel _ a' w' h'.2) (h.2 i hi)⟩

def Closed (md : Region.Mode) (ops : Array Oper) (listed : Array Bool) : Prop := ∀ k ok, ops[k]? = some ok → listed.getD k true = true → ∀ e ∈ ok.after, Region.binds md e = true → listed.getD e.on false = true

def waitsFor (md : Region.Mode) (ops : Array Oper) : Nat → Nat → Nat → Bool
 | 0, _, _ => false
 | f + 1, j, i => match ops[j]? with
  | some oj => oj.after.any fun e => Region.binds md e && (e.on == i || waitsFor md ops f e.on i)
  | none => false

theorem waitsFor_listed {listed : Array Bool} (hc : Closed md ops listed) : ∀ (f j i : Nat), waitsFor md ops f j i = true → (∀ oj, ops[j]? = some oj → ∀ e ∈ oj.after, Region.binds md e = true → listed.getD e.on false = true) → listed.getD i false = true
 | 0, _, _, h, _ => by simp [waitsFor] at h
 | f + 1, j, i, h, hall => by
  unfold waitsFor at h
  cases hj : ops[j]? with
  | none => simp [hj] at h
  | some oj =>
   simp only [hj] at h
   obtain ⟨e, he, hb⟩ := Array.any_eq_true'.1 h
   simp only [Bool.and_eq_true, Bool.or_eq_true, beq_iff_eq] at hb
   have h1 := hall oj hj e he hb.1
   rcases hb.2 with h2 | h2
   · rw [← h2]; exact h1
   · refine waitsFor_listed hc f e.on i h2 fun ok hk e' he' hb' => hc e.on ok hk ?_ e' he' hb'
     have hlt : e.on < listed.size := by
      rcases Nat.lt_or_ge e.on listed.size with h' | h'
      · exact h'
      · simp [Array.getElem?_eq_none h'] at h1
     simpa [hlt] using h1

theorem Closed.set {listed : Array Bool} {i : Nat} (hc : Closed md ops listed) (hr : i ∈ Region.ready md ops listed) : Closed md ops (listed.setIfInBounds i true) := by
 intro k ok hk hl e he hb
 by_cases hki : i = k
 · subst hki
   obtain ⟨_, o, ho, hall⟩ := mem_ready.1 hr
   rw [ho] at hk
   cases hk
   exact getD_set_true (hall e he hb)
 · rw [getD_set_ne true hki] at hl
   exact getD_set_true (hc k ok hk hl e he hb)

theorem wpAnyD_first {i : Nat} {oi : Oper} {v : Value} (hi : ops[i]? = some oi) (hsel : ∀ (j : Nat) (o : Oper) cs b, ops[j]? = some o → o.op ≠ .select cs b)
 (hQ : ∀ c a w, Q (.panic c) (a.put oi.dst v) w → Q (.panic c) a w) :
 ∀ (fuel : Nat) (listed : Array Bool) (a : Act) (w : World),
  (∀ j oj, ops[j]? = some oj → j ≠ i → listed.getD j true = false → (∀ e ∈ oj.after, Region.binds md e = true → e.on ≠ i) → oi.apart ops oj = true) →
  (∀ j oj, ops[j]? = some oj → D j = true → listed.getD j true = false → ∃ f, waitsFor md ops f j i = true) → Closed md ops listed →
  i ∈ Region.ready md ops listed → YieldsIf P ops S oi v a → S w →
  wpAnyD P md ops Q S D fuel (listed.setIfInBounds i true) (a.put oi.dst v) w → wpAnyD P md ops Q S D (fuel + 1) listed a w := by
 intro fuel
 induction fuel with
 | zero =>
  intro listed a w _ _ _ hr hy hS H
  refine ⟨fun h => (by rw [h] at hr; cases hr), fun j hj => ?_⟩
  by_cases hji : j = i
  · subst hji; exact hy.wpOp hi hS ⟨fun _ => hS, H⟩
  · have := ready_mono hj hji
    rw [H.1] at this
    cases this
 | succ fuel ih =>
  intro listed a w hfree hD hcl hr hy hS H
  refine ⟨fun h => (by rw [h] at hr; cases hr), fun j hj => ?_⟩
  by_cases hji : j = i
  · subst hji; exact hy.wpOp hi hS ⟨fun _ => hS, H⟩
  · have h1 := H.2 j (ready_mono hj hji)
    obtain ⟨hjun, oj, hoj, hall⟩ := mem_ready.1 hj
    have h0 := (mem_ready.1 hr).1
    have hno : ∀ e, listed.getD e false = true → e ≠ i := fun e h1 heq => by
     rw [heq] at h1
     rcases Nat.lt_or_ge i listed.size with h' | h'
     · simp [h'] at h0 h1; rw [h0] at h1; cases h1
     · simp [Array.getElem?_eq_none h'] at h1
    have hnot : ∀ e ∈ oj.after, Region.binds md e = true → e.on ≠ i := fun e he hb => hno e.on (hall e he hb)
    have hDj : D j = false := by
     cases hd : D j with
     | false => rfl
     | true =>
      obtain ⟨f, hf⟩ := hD j oj hoj hd hjun
      exact absurd rfl (hno i (waitsFor_listed hcl f j i hf fun ok hk => by rw [hoj] at hk; cases hk; exact hall))
    have h2 := wpOp_putIf hoj (hfree j oj hoj hji hjun hnot) (fun cs b => hsel i oi cs b hi) (fun cs b => hsel j oj cs b hoj) hQ hy h1
    have hfree' : ∀ k ok, ops[k]? = some ok → k ≠ i → (listed.setIfInBounds j true).getD k true = false →
     (∀ e ∈ ok.after, Region.binds md e = true → e.on ≠ i) → oi.apart ops ok = true := fun k ok hk hki hun hno => by
     refine hfree k ok hk hki ?_ hno
     by_cases hjk : j = k
     · subst hjk; exact hjun
     · rw [getD_set_ne true hjk] at hun; exact hun
    have hD' : ∀ k ok, ops[k]? = some ok → D k = true → (listed.setIfInBounds j true).getD k true = false → ∃ f, waitsFor md ops f k i = true := fun k ok hk hd hun => by
     refine hD k ok hk hd ?_
     by_cases hjk : j = k
     · subst hjk; exact hjun
     · rw [getD_set_ne true hjk] at hun; exact hun
    refine wpOp_mono (fun a' w' h3 => ⟨h3.2.1, ih (listed.setIfInBounds j true) a' w' hfree' hD' (hcl.set hj) (ready_mono hr (Ne.symm hji)) h3.1 (h3.2.1 hDj) ?_⟩) h2
    rw [Array.setIfInBounds_comm _ _ hji]
    exact h3.2.2

theorem wpAnyD_firstY {i : Nat} {oi : Oper} {v : Value} (hi : ops[i]? = some oi) (hsel : ∀ (j : Nat) (o : Oper) cs b, ops[j]? = some o → o.op ≠ .select cs b)
 (hQ : ∀ c a w, Q (.panic c) (a.put oi.dst v) w → Q (.panic c) a w) :
 ∀ (fuel : Nat) (listed : Array Bool) (a : Act) (w : World),
  (∀ j oj, ops[j]? = some oj → j ≠ i → listed.getD j true = false → (∀ e ∈ oj.after, Region.binds md e = true → e.on ≠ i) → oi.apart ops oj = true) →
  i ∈ Region.ready md ops listed → Yields P ops oi v a → D i = true →
  wpAnyD P md ops Q S D fuel (listed.setIfInBounds i true) (a.put oi.dst v) w → wpAnyD P md ops Q S D (fuel + 1) listed a w := by
 intro fuel
 induction fuel with
 | zero =>
  intro listed a w _ hr hy hS H
  refine ⟨fun h => (by rw [h] at hr; cases hr), fun j hj => ?_⟩
  by_cases hji : j = i
  · subst hji; exact hy.wpOp hi ⟨fun e => (by rw [hS] at e; cases e), H⟩
  · have := ready_mono hj hji
    rw [H.1] at this
    cases this
 | succ fuel ih =>
  intro listed a w hfree hr hy hS H
  refine ⟨fun h => (by rw [h] at hr; cases hr), fun j hj => ?_⟩
  by_cases hji : j = i
  · subst hji; exact hy.wpOp hi ⟨fun e => (by rw [hS] at e; cases e), H⟩
  · have h1 := H.2 j (ready_mono hj hji)
    obtain ⟨hjun, oj, hoj, hall⟩ := mem_ready.1 hj
    have hnot : ∀ e ∈ oj.after, Region.binds md e = true → e.on ≠ i := fun e he hb heq => by
     have h1 := hall e he hb
     have h0 := (mem_ready.1 hr).1
     rw [heq] at h1
     rcases Nat.lt_or_ge i listed.size with h' | h'
     · simp [h'] at h0 h1; rw [h0] at h1; cases h1
     · simp [Array.getElem?_eq_none h'] at h1
    have h2 := wpOp_put hoj (hfree j oj hoj hji hjun hnot) (fun cs b => hsel i oi cs b hi) (fun cs b => hsel j oj cs b hoj) hQ hy h1
    have hfree' : ∀ k ok, ops[k]? = some ok → k ≠ i → (listed.setIfInBounds j true).getD k true = false →
     (∀ e ∈ ok.after, Region.binds md e = true → e.on ≠ i) → oi.apart ops ok = true := fun k ok hk hki hun hno => by
     refine hfree k ok hk hki ?_ hno
     by_cases hjk : j = k
     · subst hjk; exact hjun
     · rw [getD_set_ne true hjk] at hun; exact hun
    refine wpOp_mono (fun a' w' h3 => ⟨h3.2.1, ih (listed.setIfInBounds j true) a' w' hfree' (ready_mono hr (Ne.symm hji)) h3.1 hS ?_⟩) h2
    rw [Array.setIfInBounds_comm _ _ hji]
    exact h3.2.2

def waitsAll (md : Region.Mode) (ops : Array Oper) (D : Nat → Bool) (listed : Array Bool) (i : Nat) : Bool :=
 (List.range ops.size).all fun j => !D j || listed.getD j true || waitsFor md ops 5 j i
def closedB (md : Region.Mode) (ops : Array Oper) (listed : Array Bool) : Bool :=
 (List.range ops.size).all fun k => !listed.getD k true || match ops[k]? with
  | some ok => ok.after.all fun e => !Region.binds md e || listed.getD e.on false
  | none => true

theorem waitsAll_spec {listed : Array Bool} {i : Nat} (h : waitsAll md ops D listed i = true) (j : Nat) (oj : Oper) (hj : ops[j]? = some oj) (hd : D j = true) (hl : listed.getD j true = false) : ∃ f, waitsFor md ops f j i = true := by
 simp only [waitsAll, List.all_eq_true, List.mem_range] at h
 have h1 := h j (Array.getElem?_eq_some_iff.1 hj).1
 simp only [hd, hl, Bool.not_true, Bool.false_or] at h1
 exact ⟨5, h1⟩
theorem closedB_spec {listed : Array Bool} (h : closedB md ops listed = true) : Closed md ops listed := by
 intro k ok hk hl e he hb
 simp only [closedB, List.all_eq_true, List.mem_range] at h
 have h1 := h k (Array.getElem?_eq_some_iff.1 hk).1
 simp only [hl, hk, Bool.not_true, Bool.false_or] at h1
 have h2 := Array.all_eq_true'.1 h1 e he
 simpa [hb] using h2

theorem wpAnyD_take {i : Nat} {oi : Oper} {v : Value} {fuel : Nat} {listed : Array Bool} {a : Act} {w : World} (hi : ops[i]? = some oi)
 (hs : Region.noSelect ops = true) (hf : Region.free md ops listed i = true) (hr : (Region.ready md ops listed).contains i = true) (hw : waitsAll md ops D listed i = true) (hc : closedB md ops listed = true)
 (hQ : ∀ c a w, Q (.panic c) (a.put oi.dst v) w → Q (.panic c) a w) (hy : YieldsIf P ops S oi v a) (hS : S w)
 (h : wpAnyD P md ops Q S D fuel (listed.setIfInBounds i true) (a.put oi.dst v) w) : wpAnyD P md ops Q S D (fuel + 1) listed a w :=
 wpAnyD_first hi (Region.noSelect_spec hs) hQ fuel listed a w (Region.free_spec hi hf) (waitsAll_spec hw) (closedB_spec hc) (by simpa using hr) hy hS h

theorem wpAnyD_takeY {i : Nat} {oi : Oper} {v : Value} {fuel : Nat} {listed : Array Bool} {a : Act} {w : World} (hi : ops[i]? = some oi)
 (hs : Region.noSelect ops = true) (hf : Region.free md ops listed i = true) (hr : (Region.ready md ops listed).contains i = true) (hd : D i = true)
 (hQ : ∀ c a w, Q (.panic c) (a.put oi.dst v) w → Q (.panic c) a w) (hy : Yields P ops oi v a)
 (h : wpAnyD P md ops Q S D fuel (listed.setIfInBounds i true) (a.put oi.dst v) w) : wpAnyD P md ops Q S D (fuel + 1) listed a w :=
 wpAnyD_firstY hi (Region.noSelect_spec hs) hQ fuel listed a w (Region.free_spec hi hf) (by simpa using hr) hy hd h

theorem wpAnyD_all {rs : List Nat} {fuel : Nat} {listed : Array Bool} {a : Act} {w : World} (hr : Region.ready md ops listed = rs) (hne : rs ≠ [])
 (h : ∀ i ∈ rs, wpOp P ops Q i (fun a' w' => (D i = false → S w') ∧ wpAnyD P md ops Q S D fuel (listed.setIfInBounds i true) a' w') a w) : wpAnyD P md ops Q S D (fuel + 1) listed a w :=
 ⟨fun h0 => absurd (hr ▸ h0) hne, hr ▸ h⟩

theorem wpAnyD_done {listed : Array Bool} {a : Act} {w : World} (hr : Region.ready md ops listed = []) (h : Q .normal a w) :
 ∀ fuel, wpAnyD P md ops Q S D fuel listed a w
 | 0 => ⟨hr, h⟩
 | _ + 1 => ⟨fun _ => h, by rw [hr]; simp⟩

theorem wp_region_D {id : Nat} {a : Act} {w : World} (hm : P.follows .mixedOrders = true)
 (h : wpAnyD P .any ops Q S D ops.size (Array.replicate ops.size false) a { w with drawn := w.drawn + 1 }) : (Code.region id ops true).wp P Q a w :=
 wp_region_any hm (wpAny_of_D _ _ _ _ h)

def ReadyD (P : Program) (md : Region.Mode) (ops : Array Oper) (Q : Exit → Act → World → Prop) (S : World → Prop) (D : Nat → Bool) (fuel : Nat) (listed : Array Bool) (a : Act) (w : World) (rs : List Nat) : Prop :=
 ∀ i ∈ rs, wpOp P ops Q i (fun a' w' => (D i = false → S w') ∧ wpAnyD P md ops Q S D fuel (listed.setIfInBounds i true) a' w') a w

theorem ReadyD.nil {fuel : Nat} {listed : Array Bool} {a : Act} {w : World} : ReadyD P md ops Q S D fuel listed a w [] := fun _ h => by cases h
theorem ReadyD.cons {fuel : Nat} {listed : Array Bool} {a : Act} {w : World} {i : Nat} {o : Oper} {rs : List Nat} (ho : ops[i]? = some o)
 (h : ∀ K' : Act → World → Prop, Shut (∀ a w, S w → (S w → wpAnyD P md ops Q S D fuel (listed.setIfInBounds i true) a w) → K' a w) → if Region.wanted o (yielded ops a.tmps) = true then Oper.wp P o a w K' Q else K' (a.put o.dst undef) w)
 (hs : ReadyD P md ops Q S D fuel listed a w rs) : ReadyD P md ops Q S D fuel listed a w (i :: rs) := fun j hj => by
 rcases List.mem_cons.1 hj with rfl | hj
 · exact wpOp_step ho (fun K' hK => h K' (fun a w hS hW => hK a w ⟨fun _ => hS, hW hS⟩))
 · exact hs j hj
theorem ReadyD.last {fuel : Nat} {listed : Array Bool} {a : Act} {w : World} {i : Nat} {o : Oper} {rs : List Nat} (ho : ops[i]? = some o) (hd : D i = true)
 (h : ∀ K' : Act → World → Prop, Shut (∀ a w, wpAnyD P md ops Q S D fuel (listed.setIfInBounds i true) a w → K' a w) → if Region.wanted o (yielded ops a.tmps) = true then Oper.wp P o a w K' Q else K' (a.put o.dst undef) w)
 (hs : ReadyD P md ops Q S D fuel listed a w rs) : ReadyD P md ops Q S D fuel listed a w (i :: rs) := fun j hj => by
 rcases List.mem_cons.1 hj with rfl | hj
 · exact wpOp_step ho (fun K' hK => h K' (fun a w hW => hK a w ⟨fun e => (by rw [hd] at e; cases e), hW⟩))
 · exact hs j hj
theorem wpAnyD_ready {rs : List Nat} {fuel : Nat} {listed : Array Bool} {a : Act} {w : World} (hr : Region.ready md ops listed = rs) (hne : rs ≠ [])
 (h : ReadyD P md ops Q S D fuel listed a w rs) : wpAnyD P md ops Q S D (fuel + 1) listed a w := wpAnyD_all hr hne h
theorem wp_region_D_drew {id : Nat} {a : Act} {w : World} (hm : P.follows .mixedOrders = true) (hS : S w.drew)
 (h : S w.drew → wpAnyD P .any ops Q S D ops.size (Array.replicate ops.size false) a w.drew) : (Code.region id ops true).wp P Q a w :=
 wp_region_D hm (h hS)
end

def okTake (md : Region.Mode) (ops : Array Oper) (D : Nat → Bool) (listed : Array Bool) (i : Nat) : Bool :=
 Region.noSelect ops && Region.free md ops listed i && (Region.ready md ops listed).contains i && (D i || (waitsAll md ops D listed i && closedB md ops listed))

section
variable {P : Program} {ops : Array Oper} {Q : Exit → Act → World → Prop} {md : Region.Mode} {S : World → Prop} {D : Nat → Bool}
theorem takeD {i : Nat} (d : Option Tmp) {oi : Oper} {v : Value} {fuel : Nat} {listed : Array Bool} {a : Act} {w : World} (hi : ops[i]? = some oi) (hd : oi.dst = d) (hD : D i = true) (hok : okTake md ops D listed i = true) (hw : Region.wanted oi (yielded ops a.tmps) = true)
 (hQ : ∀ c a w, Q (.panic c) (a.put oi.dst v) w → Q (.panic c) a w) (hy : ∀ w, (execOp a.eval oi).run P w = .ok (.value v) w)
 (h : wpAnyD P md ops Q S D fuel (listed.setIfInBounds i true) (a.put d v) w) : wpAnyD P md ops Q S D (fuel + 1) listed a w := by
 subst hd
 simp only [okTake, Bool.and_eq_true] at hok
 exact wpAnyD_takeY hi hok.1.1.1 hok.1.1.2 hok.1.2 hD hQ (.inl ⟨hw, hy⟩) h
theorem takeS {i : Nat} (d : Option Tmp) {oi : Oper} {v : Value} {fuel : Nat} {listed : Array Bool} {a : Act} {w : World} (hi : ops[i]? = some oi) (hd : oi.dst = d) (hD : D i = false) (hok : okTake md ops D listed i = true) (hw : Region.wanted oi (yielded ops a.tmps) = true)
 (hQ : ∀ c a w, Q (.panic c) (a.put oi.dst v) w → Q (.panic c) a w) (hS : S w) (hy : ∀ w, S w → (execOp a.eval oi).run P w = .ok (.value v) w)
 (h : wpAnyD P md ops Q S D fuel (listed.setIfInBounds i true) (a.put d v) w) : wpAnyD P md ops Q S D (fuel + 1) listed a w := by
 subst hd
 simp only [okTake, hD, Bool.false_or, Bool.and_eq_true] at hok
 exact wpAnyD_take hi hok.1.1.1 hok.1.1.2 hok.1.2 hok.2.1 hok.2.2 hQ (.inl ⟨hw, hy⟩) hS h
end
end Go.Wh

namespace Go.Wh

def upN {α : Type} (f : Nat → α) (i : Nat) (v : α) : Nat → α := fun j => if j = i then v else f j
def fillA (B : List (Nat × Nat)) (xs : Nat → Value) (a : Act) : Act := B.foldl (fun a p => a.put (some p.2) (xs p.1)) a
section
variable {P : Program} {ops : Array Oper} {Q : Exit → Act → World → Prop} {md : Region.Mode} {S : World → Prop} {D : Nat → Bool}

def StepM (P : Program) (ops : Array Oper) (Q : Exit → Act → World → Prop) (J : (Nat → Bool) → (Nat → Value) → World → Prop) (B : List (Nat × Nat)) (dep : Nat → List Nat) (a : Act) (i t : Nat) : Prop :=
 ∀ (L : Nat → Bool) (xs : Nat → Value) (w : World), (∀ j ∈ dep i, L j = true) → L i = false → J L xs w → wpOp P ops Q i (fun a' w' => ∃ v, a' = (fillA B xs a).put (some t) v ∧ J (upN L i true) (upN xs i v) w') (fillA B xs a) w

theorem StepM.of {J : (Nat → Bool) → (Nat → Value) → World → Prop} {B : List (Nat × Nat)} {dep : Nat → List Nat} {a : Act} {i t : Nat} {o : Oper} (ho : ops[i]? = some o)
 (h : ∀ (L : Nat → Bool) (xs : Nat → Value) (w : World), (∀ j ∈ dep i, L j = true) → L i = false → J L xs w → ∀ K' : Act → World → Prop, Shut (∀ v w', J (upN L i true) (upN xs i v) w' → ∀ a', a' = (fillA B xs a).put (some t) v → K' a' w') →
  if Region.wanted o (yielded ops (fillA B xs a).tmps) = true then Oper.wp P o (fillA B xs a) w K' Q else K' ((fillA B xs a).put o.dst undef) w) : StepM P ops Q J B dep a i t :=
 fun L xs w hd hl hj => wpOp_step ho fun K' hK => h L xs w hd hl hj K' fun v w' hJ a' ha => hK a' w' ⟨v, ha, hJ⟩

end
end Go.Wh

namespace Go.Proofs.YtlcfoeikamkpmaaGreat
open Go.RowKit Go.Wh Go.Maps
open Go.ChangeMaps (setBlock heap_setBlock_same heap_setBlock_other)

theorem setCell_only (w : World) (p : Addr) (u : Value) : Only (fun k => k = p.block) w (w.setCell p u) := (Only.refl (fun k => k = p.block) w).setCell (.inl rfl) u

theorem make64 (w : World) : (Instr.makeSlice 22 (.int .i64 64) (.int .i64 64)).run Tryz.prog w = .ok (.slice (some ⟨w.heap.size, 0, none⟩) 64 64) (w.alloc (.cells (bc (List.replicate 64 0)).toArray 5)) := by
 obtain ⟨i, hi, hz0, hz1, hz2⟩ := info_parts info_b
 have h := run_makeSlice (P := Tryz.prog) (w := w) 22 5 i (.int .u8 0) Tryz.underlying22 hi hz0 .i64 .i64 64 64 (by omega) (by omega) (by rw [hz1]; decide) (by rw [hz2]; decide) (by decide)
 rw [hz1] at h
 have e : madeCells (Value.int .u8 0).cells (Int.toNat 64 * 1) = (bc (List.replicate 64 0)).toArray := by kernel_rfl
 rw [e] at h
 exact h

theorem kmap.clear {P : Program} {k : TypeId} {α : Type} {E : α → Value} {w : World} {b : Nat} {V : α → Option Value} {t e ty : TypeId} (h : kmap w P k E b V) (ht : P.underlying t = some (.map k e)) :
 ∃ w', (Builtin.clear_ #[t] ty #[.map (some b)]).run P w = .ok (.tuple #[]) w' ∧ kmap w' P k E b (fun _ => none) ∧ w.grownBy w' (some b) ∧ w'.heap.size = w.heap.size := by
 obtain ⟨es, clock, hb, -⟩ := h
 refine ⟨setBlock w b (.map #[] clock), ?_, ⟨#[], clock, heap_setBlock_same hb _, MapKept.stamped_empty _, by simp, by simp, by simp⟩, ⟨rfl, rfl, rfl, by simp [setBlock], fun i _ hi => heap_setBlock_other hb _ (fun e => hi (by rw [e]))⟩, by simp [setBlock]⟩
 simp [Builtin.clear_, run_underlying ht, MapKept.run_getObj_map hb, MapKept.run_setObj_map _ hb, Result.andThen, setBlock]
section
variable {w w' : World} {d mb : Nat} {T : List (List Int)} {tv : Value} {vs : List Value}
theorem DkAt.map (h : DkAt w d T tv mb vs) {V : Int → Option Value} (hk : kmap w' Tryz.prog 3 (fun z : Int => .int .i64 z) mb V) (ho : Only (fun b => b = mb) w w') : DkAt w' d T tv mb vs := by
 refine ⟨h.cells.only ho h.dm, h.t.only ho (fun g hg e => (h.td g hg).2.1 e), fun i l hi => ?_, ⟨V, hk⟩, h.dm, fun g hg => ?_, fun v hv g hg => ?_, h.one⟩
 · obtain ⟨v, hv, hr⟩ := h.ins i l hi
   exact ⟨v, hv, Reads.only hr ho fun g hg e => (h.ia v (List.mem_of_getElem? hv) g hg).2.1 e⟩
 · have := h.td g hg
   exact ⟨this.1, this.2.1, Nat.lt_of_lt_of_le this.2.2 ho.size⟩
 · have := h.ia v hv g hg
   exact ⟨this.1, this.2.1, this.2.2.1, Nat.lt_of_lt_of_le this.2.2.2 ho.size⟩
theorem DkAt.put {g o c i : Nat} {l : List Int} {v : Value} (h : DkAt w d T tv mb vs) (htv : tv = .slice (some ⟨g, o, none⟩) T.length c) (hi : i < T.length) (hv : Reads w 1 v 64 (bc l)) (hf : ∀ g', v.ownBlock = some g' → g' ≠ d ∧ g' ≠ mb ∧ g' ≠ g ∧ g' < w.heap.size) (h1 : v.oneCell' = true) :
 DkAt (w.setCell ⟨g, o + i, none⟩ v) d (T.set i l) tv mb (vs.set i v) := by
 subst htv
 have ho := setCell_only w ⟨g, o + i, none⟩ v
 have hgd := h.td g rfl
 have hz : (w.setCell ⟨g, o + i, none⟩ v).heap.size = w.heap.size := by simp [World.setCell]
 have hlen : vs.length = T.length := by have := h.t.len; omega
 refine ⟨h.cells.only ho (fun e => hgd.1 e.symm), ?_, fun j l' hj => ?_, ?_, h.dm, fun g' hg' => ?_, fun u hu g' hg' => ?_, fun u hu => ?_⟩
 · rw [List.length_set]
   obtain ⟨g', o', c', he, ht⟩ := h.t.form (by omega)
   injection he with he _ hec
   injection he with he
   injection he with hg ho'
   subst hg ho' hec
   exact .inr ⟨_, _, _, rfl, ht.set i (by omega) v⟩
 · by_cases e : i = j
   · subst e
     rw [List.getElem?_set_self hi] at hj
     cases hj
     refine ⟨v, List.getElem?_set_self (by omega), Reads.only hv ho fun g' hg' e => (hf g' hg').2.2.1 e⟩
   · rw [List.getElem?_set_ne e] at hj
     obtain ⟨u, hu, hr⟩ := h.ins j l' hj
     refine ⟨u, by rw [List.getElem?_set_ne e]; exact hu, Reads.only hr ho fun g' hg' e => (h.ia u (List.mem_of_getElem? hu) g' hg').2.2.1 (by rw [show g' = g from e]; rfl)⟩
 · obtain ⟨V, hm⟩ := h.m
   exact ⟨V, hm.block (ho.block mb hm.lt fun e => hgd.2.1 (show mb = g from e).symm)⟩
 · have := h.td g' hg'
   rw [hz]
   exact this
 · rw [hz]
   rcases List.mem_or_eq_of_mem_set hu with hu | rfl
   · exact h.ia u hu g' hg'
   · have := hf g' hg'
     exact ⟨this.1, this.2.1, fun e => this.2.2.1 (Option.some.inj e).symm, this.2.2.2⟩
 · rcases List.mem_or_eq_of_mem_set hu with hu | rfl
   · exact h.one u hu
   · exact h1
end

def WrPost (w : World) (d : Nat) (T' : List (List Int)) (tv : Value) (mb : Nat) (vs : List Value) (e : Ending) (w' : World) : Prop :=
 e = .returned (.int .i64 0) ∧ ∃ vs', DkAt w' d T' tv mb vs' ∧ Only (fun b => b = mb ∨ tv.ownBlock = some b) w w' ∧ ∀ u ∈ vs', u ∈ vs ∨ ∀ g, u.ownBlock = some g → w.heap.size ≤ g

theorem intK (i : Nat) (hi : i ≤ 100000) : keyOf Tryz.prog 3 (.int .i64 (i : Int)) = some (.int .i64 (i : Int)) := keyOf_int_mk Tryz.underlying3 (by
 have e1 : IntKind.i64.min = -9223372036854775808 := by decide
 have e2 : IntKind.i64.max = 9223372036854775807 := by decide
 simp only [Lit.wf, e1, e2, Bool.and_eq_true, decide_eq_true_eq]
 omega)

end Go.Proofs.YtlcfoeikamkpmaaGreat

namespace Go.Proofs.YtlcfoeikamkpmaaGreat
open Go.RowKit Go.Wh Go.Maps

def SyPost (w : World) (d : Nat) (T : List (List Int)) (tv : Value) (mb : Nat) (vs : List Value) (e : Ending) (w' : World) : Prop :=
 e = .returned (.int .i64 0) ∧ DkAt w' d T tv mb vs ∧ Only (fun b => b = mb) w w'
theorem info_bb : (Tryz.prog.info? 22).map (fun i => (i.zero, i.size, i.bytes)) = some (some (.slice none 0 0), 1, 24) := by kernel_rfl

theorem DkAt.push {w w' : World} {d mb : Nat} {T : List (List Int)} {tv tv' v : Value} {vs : List Value} {l : List Int} (h : DkAt w d T tv mb vs) (ho : Only (fun b => tv.ownBlock = some b) w w') (hv : Vec w' 1 tv' (T.length + 1) (vs ++ [v])) (hr : Reads w' 1 v 64 (bc l))
 (hvb : ∀ g, v.ownBlock = some g → w.heap.size ≤ g ∧ g < w'.heap.size) (htb : ∀ g, tv'.ownBlock = some g → (tv.ownBlock = some g ∨ w.heap.size ≤ g) ∧ g < w'.heap.size) (hne : ∀ g, v.ownBlock = some g → tv'.ownBlock ≠ some g) (h1 : v.oneCell' = true) :
 DkAt (w'.setCell ⟨d, 0, none⟩ tv') d (T ++ [l]) tv' mb (vs ++ [v]) := by
 have hs := setCell_only w' ⟨d, 0, none⟩ tv'
 have hz : (w'.setCell ⟨d, 0, none⟩ tv').heap.size = w'.heap.size := by simp [World.setCell]
 have hlt := h.lt
 have hsz := ho.size
 have hlen : vs.length = T.length := by have := h.t.len; omega
 have htd : ∀ g, tv'.ownBlock = some g → g ≠ d ∧ g ≠ mb := fun g hg => by
  rcases (htb g hg).1 with e | e
  · exact ⟨(h.td g e).1, (h.td g e).2.1⟩
  · exact ⟨by omega, by omega⟩
 refine ⟨?_, ?_, fun i l' hi => ?_, ?_, h.dm, fun g hg => ?_, fun u hu g hg => ?_, fun u hu => ?_⟩
 · exact ((h.cells.only ho fun e => (h.td d e).1 rfl).setCell 0 tv' : cellsAt _ d _)
 · rw [List.length_append]
   exact hv.only hs fun g hg e => (htd g hg).1 e
 · rcases Nat.lt_or_ge i T.length with hlt' | hge
   · rw [List.getElem?_append_left hlt'] at hi
     obtain ⟨u, hu, hr'⟩ := h.ins i l' hi
     have hui := h.ia u (List.mem_of_getElem? hu)
     refine ⟨u, by rw [List.getElem?_append_left (by omega)]; exact hu, Reads.only (Reads.only hr' ho fun g hg e => (hui g hg).2.2.1 e) hs fun g hg e => (hui g hg).1 e⟩
   · have hi' : i = T.length := by
      have := (List.getElem?_eq_some_iff.1 hi).1
      rw [List.length_append, List.length_singleton] at this
      omega
     subst hi'
     rw [List.getElem?_concat_length] at hi
     cases hi
     refine ⟨v, by rw [← hlen, List.getElem?_concat_length], Reads.only hr hs fun g hg e => ?_⟩
     have := hvb g hg
     have e' : g = d := e
     omega
 · obtain ⟨V, hm⟩ := h.m
   exact ⟨V, (hm.block (ho.block mb hm.lt fun e => (h.td mb e).2.1 rfl)).block (hs.block mb (by omega) fun e => h.dm (show mb = d from e).symm)⟩
 · have := htb g hg
   rw [hz]
   exact ⟨(htd g hg).1, (htd g hg).2, this.2⟩
 · rw [hz]
   rcases List.mem_append.1 hu with hu | hu
   · have hui := h.ia u hu g hg
     refine ⟨hui.1, hui.2.1, fun e => ?_, by omega⟩
     rcases (htb g e).1 with e' | e'
     · exact hui.2.2.1 e'
     · omega
   · rw [List.mem_singleton.1 hu] at hg
     have := hvb g hg
     exact ⟨by omega, by omega, hne g hg, this.2⟩
 · rcases List.mem_append.1 hu with hu | hu
   · exact h.one u hu
   · rw [List.mem_singleton.1 hu]
     exact h1

def NewRel (w : World) (d mb i : Nat) (wr : World) : Prop := ∃ tv vs, DkAt wr d (List.replicate i (List.replicate 64 0)) tv mb vs ∧ Still w wr ∧ (∀ g, tv.ownBlock = some g → w.heap.size ≤ g) ∧ ∀ u ∈ vs, ∀ g, u.ownBlock = some g → w.heap.size ≤ g

end Go.Proofs.YtlcfoeikamkpmaaGreat

namespace Go.Wh
open Go.RowKit

structure ChS where
 I : List Nat
 sz : Nat → Nat
 n : Nat → Nat
 cs : Nat → List Value
 use : Nat → Nat

structure ChJ (W : World) (X : ChS) (L : Nat → Bool) (xs : Nat → Value) (w : World) : Prop where
 still : Only (fun _ => False) W w
 vec : ∀ i ∈ X.I, L i = true → L (X.use i) = false → Vec w (X.sz i) (xs i) (X.n i) (X.cs i) ∧ ∀ g, (xs i).ownBlock = some g → W.heap.size ≤ g ∧ g < w.heap.size
 apart : ∀ i ∈ X.I, ∀ j ∈ X.I, i ≠ j → L i = true → L j = true → L (X.use i) = false → L (X.use j) = false → ∀ g, (xs i).ownBlock = some g → (xs j).ownBlock ≠ some g

section
variable {W w w' : World} {X : ChS} {L : Nat → Bool} {xs : Nat → Value} {i s : Nat} {v : Value}
theorem ChJ.start (hs : Only (fun _ => False) W w) (hl : ∀ j ∈ X.I, L j = false) : ChJ W X L xs w :=
 ⟨hs, (fun j hj h => by rw [hl j hj] at h; cases h), (fun j hj _ _ _ h => by rw [hl j hj] at h; cases h)⟩
end

section
variable {P : Program}
theorem Vec.part {size n : Nat} {v : Value} {xs : List Value} (t : TypeId) (ht : P.underlying t = some (.slice (P.elem t))) (hz : ∀ w, (sizeOf (P.elem t)).run P w = .ok size w) {w0 : World} (h0 : Vec w0 size v n xs) {lo hi : Nat} (h1 : lo ≤ hi) (h2 : hi ≤ n) :
 ∃ v', (∀ w, (Instr.slice t v (some (.int .i64 (lo : Int))) (some (.int .i64 (hi : Int))) none).run P w = .ok v' w) ∧ (lo = 0 → ∀ w, (Instr.slice t v none (some (.int .i64 (hi : Int))) none).run P w = .ok v' w) ∧ (hi = n → ∀ w, (Instr.slice t v (some (.int .i64 (lo : Int))) none none).run P w = .ok v' w) ∧
  ∀ w, Vec w size v n xs → Vec w size v' (hi - lo) ((xs.drop (lo * size)).take ((hi - lo) * size)) := by
 rcases h0 with ⟨rfl, rfl, rfl⟩ | ⟨g, o, cap, rfl, hv⟩
 · have e1 : hi = 0 := by omega
   have e2 : lo = 0 := by omega
   subst e1 e2
   refine ⟨.slice none 0 0, fun w => ?_, fun _ w => ?_, fun _ w => ?_, fun w _ => by simpa using Vec.nil w size⟩
   · rw [run_slice_lh w t none 0 0 ht .i64 .i64 _ _ (by omega) (by omega) (by omega), hz]
     simp [Result.andThen, sliced]
   · rw [run_slice_h w t none 0 0 ht .i64 _ (by omega) (by omega), hz]
     simp [Result.andThen, sliced]
   · rw [run_slice_l w t none 0 0 ht .i64 _ (by omega) (by omega), hz]
     simp [Result.andThen, sliced]
 · have hle := hv.le
   refine ⟨sliced (some ⟨g, o, none⟩) lo hi cap size, fun w => ?_, fun e w => ?_, fun e w => ?_, fun w hw => ?_⟩
   · rw [run_slice_lh w t _ _ _ ht .i64 .i64 _ _ (by omega) (by omega) (by omega), hz]
     rfl
   · subst e
     rw [run_slice_h w t _ _ _ ht .i64 _ (by omega) (by omega), hz]
     rfl
   · subst e
     rw [run_slice_l w t _ _ _ ht .i64 _ (by omega) (by omega), hz]
     rfl
   · have := hw.at.cut lo hi cap h1 h2 (by omega) (Nat.le_refl _)
     have e : sliced (some ⟨g, o, none⟩) lo hi cap size = .slice (some (cutAddr size g o lo cap)) (hi - lo) (cap - lo) := by
      unfold sliced cutAddr
      split <;> simp
     rw [e]
     exact this
end

section
variable {P : Program} {ops : Array Oper} {Q : Exit → Act → World → Prop} {W : World} {X : ChS} {B : List (Nat × Nat)} {dep : Nat → List Nat} {a : Act} {i s tt : Nat} {o : Oper}
end
end Go.Wh

namespace Go.Proofs.YtlcfoeikamkpmaaGreat
open Go.RowKit Go.Wh Go.Maps

def Sl (w : World) (Q : Nat → Prop) (sz : Nat) (dv : Value) (m : Nat) (xs : List Value) : Prop :=
 xs.length = m * sz ∧ (((dv = .slice none 0 0 ∨ ∃ a c, dv = .slice (some a) 0 c) ∧ m = 0) ∨ ∃ g o c, dv = .slice (some ⟨g, o, none⟩) m c ∧ (0 < m → Q g ∧ g < w.heap.size) ∧ ∀ j u, xs[j]? = some u → w.cell? ⟨g, o + j, none⟩ = some u)
section
variable {w w' : World} {Q X : Nat → Prop} {sz m : Nat} {dv : Value} {xs : List Value}
theorem Sl.only (h : Sl w Q sz dv m xs) (ho : Only X w w') (hq : ∀ g, Q g → ¬ X g) : Sl w' Q sz dv m xs := by
 refine ⟨h.1, h.2.imp id ?_⟩
 rintro ⟨g, o, c, rfl, h1, h2⟩
 refine ⟨g, o, c, rfl, fun hm => ⟨(h1 hm).1, Nat.lt_of_lt_of_le (h1 hm).2 ho.size⟩, fun j u hj => ?_⟩
 have hm : 0 < m := by
  rcases Nat.eq_zero_or_pos m with e | e
  · have := h.1
    rw [e, Nat.zero_mul, List.length_eq_zero_iff] at this
    rw [this] at hj
    cases hj
  · exact e
 exact (ho.cell (p := ⟨g, o + j, none⟩) (h1 hm).2 (hq g (h1 hm).1)).trans (h2 j u hj)
theorem Sl.still (h : Sl w Q sz dv m xs) (hs : Still w w') : Sl w' Q sz dv m xs := h.only hs fun _ _ e => e
theorem Sl.mono {R : Nat → Prop} (h : Sl w Q sz dv m xs) (hr : ∀ g, Q g → R g) : Sl w R sz dv m xs := by
 refine ⟨h.1, h.2.imp id ?_⟩
 rintro ⟨g, o, c, rfl, h1, h2⟩
 exact ⟨g, o, c, rfl, fun hm => ⟨hr g (h1 hm).1, (h1 hm).2⟩, h2⟩
theorem Sl.reads (h : Sl w Q sz dv m xs) : Reads w sz dv m xs := by
 refine ⟨h.1, ?_⟩
 rcases h.2 with ⟨h1 | ⟨a, c, rfl⟩, h2⟩ | h1
 · exact .inl ⟨h1, h2⟩
 · subst h2
   have h0 := h.1
   rw [Nat.zero_mul, List.length_eq_zero_iff] at h0
   exact .inr ⟨a, c, rfl, fun j u hj => by rw [h0] at hj; cases hj⟩
 right
 obtain ⟨g, o, c, rfl, h1, h2⟩ := h1
 exact ⟨_, _, rfl, fun j u hj => by rw [Addr.add_lit]; exact h2 j u hj⟩
theorem Sl.form (h : Sl w Q sz dv m xs) : ∃ a c, dv = .slice a m c := by
 rcases h.2 with ⟨rfl | ⟨a, c, rfl⟩, rfl⟩ | ⟨g, o, c, rfl, _⟩
 · exact ⟨_, _, rfl⟩
 · exact ⟨_, _, rfl⟩
 · exact ⟨_, _, rfl⟩
theorem Sl.pos (h : Sl w Q sz dv m xs) (hm : 0 < m) : ∃ g o c, dv = .slice (some ⟨g, o, none⟩) m c ∧ Q g ∧ g < w.heap.size ∧ ∀ j u, xs[j]? = some u → w.cell? ⟨g, o + j, none⟩ = some u := by
 rcases h.2 with ⟨_, rfl⟩ | ⟨g, o, c, e, h1, h2⟩
 · omega
 · exact ⟨g, o, c, e, (h1 hm).1, (h1 hm).2, h2⟩
theorem Vec.sl (h : Vec w sz dv m xs) (hq : ∀ g, dv.ownBlock = some g → Q g ∧ g < w.heap.size) : Sl w Q sz dv m xs := by
 refine ⟨h.len, ?_⟩
 rcases h with ⟨rfl, rfl, _⟩ | ⟨g, o, c, rfl, h⟩
 · exact .inl ⟨.inl rfl, rfl⟩
 · refine .inr ⟨g, o, c, rfl, fun hm => hq g rfl, fun j u hj => ?_⟩
   rw [h.cells j (by rw [← h.len]; exact (List.getElem?_eq_some_iff.1 hj).1)]
   exact hj
theorem Vec.sl0 (h : Vec w sz dv m xs) (hz : 0 < sz) : Sl w (fun _ => True) sz dv m xs := by
 refine ⟨h.len, ?_⟩
 rcases h with ⟨rfl, rfl, _⟩ | ⟨g, o, c, rfl, h⟩
 · exact .inl ⟨.inl rfl, rfl⟩
 · refine .inr ⟨g, o, c, rfl, fun hm => ⟨trivial, h.lt (Nat.mul_pos (by have := h.le; omega) hz)⟩, fun j u hj => ?_⟩
   rw [h.cells j (by rw [← h.len]; exact (List.getElem?_eq_some_iff.1 hj).1)]
   exact hj
theorem Sl.low (h : Sl w Q sz dv m xs) : Sl w (fun g => Q g ∧ g < w.heap.size) sz dv m xs := by
 refine ⟨h.1, h.2.imp id ?_⟩
 rintro ⟨g, o, c, rfl, h1, h2⟩
 exact ⟨g, o, c, rfl, fun hm => ⟨h1 hm, (h1 hm).2⟩, h2⟩
theorem Sl.nil : Sl w Q sz (.slice none 0 0) 0 [] := ⟨by simp, .inl ⟨.inl rfl, rfl⟩⟩
theorem Sl.empty {a : Option Addr} {c : Nat} (h : a = none → c = 0) : Sl w Q sz (.slice a 0 c) 0 [] := by
 refine ⟨by simp, .inl ⟨?_, rfl⟩⟩
 cases a with
 | none => rw [h rfl]; exact .inl rfl
 | some a => exact .inr ⟨a, c, rfl⟩
end

def Cap (m : Nat) (dv : Value) : Prop := ∃ a c, dv = .slice a m c ∧ m ≤ c
theorem Vec.capOf {w : World} {sz m : Nat} {dv : Value} {xs : List Value} (h : Vec w sz dv m xs) : Cap m dv := by
 rcases h with ⟨rfl, rfl, _⟩ | ⟨g, o, c, rfl, h⟩
 · exact ⟨_, _, rfl, Nat.le_refl _⟩
 · exact ⟨_, _, rfl, h.le⟩
theorem Sl.part {P : Program} {size m : Nat} {v : Value} {xs : List Value} (t : TypeId) (ht : P.underlying t = some (.slice (P.elem t))) (hz : ∀ w, (sizeOf (P.elem t)).run P w = .ok size w) {w0 : World} {Q0 : Nat → Prop} (h0 : Sl w0 Q0 size v m xs) (hc : Cap m v) {lo hi : Nat} (h1 : lo ≤ hi) (h2 : hi ≤ m) :
 ∃ v', (∀ w, (Instr.slice t v (some (.int .i64 (lo : Int))) (some (.int .i64 (hi : Int))) none).run P w = .ok v' w) ∧ (lo = 0 → ∀ w, (Instr.slice t v none (some (.int .i64 (hi : Int))) none).run P w = .ok v' w) ∧ (hi = m → ∀ w, (Instr.slice t v (some (.int .i64 (lo : Int))) none none).run P w = .ok v' w) ∧ Cap (hi - lo) v' ∧
  ∀ w Q, Sl w Q size v m xs → Sl w Q size v' (hi - lo) ((xs.drop (lo * size)).take ((hi - lo) * size)) := by
 obtain ⟨hl, h0⟩ := h0
 have e1 : lo * size + (hi - lo) * size = hi * size := by rw [← Nat.add_mul]; congr 1; omega
 have e2 := Nat.mul_le_mul_right size h2
 have hlen : ((xs.drop (lo * size)).take ((hi - lo) * size)).length = (hi - lo) * size := by rw [List.length_take, List.length_drop]; omega
 rcases h0 with ⟨rfl | ⟨a, c, rfl⟩, rfl⟩ | ⟨g, o, c, rfl, -, -⟩
 rotate_left
 · have n1 : hi = 0 := by omega
   have n2 : lo = 0 := by omega
   subst n1 n2
   have e : ∃ a' c', sliced (some a) 0 0 c size = .slice (some a') 0 c' := by
    unfold sliced
    split <;> exact ⟨_, _, rfl⟩
   obtain ⟨a', c', e⟩ := e
   refine ⟨sliced (some a) 0 0 c size, fun w => ?_, fun _ w => ?_, fun _ w => ?_, ⟨_, _, e, by simp⟩, fun w Q _ => ⟨hlen, .inl ⟨.inr ⟨a', c', e⟩, by simp⟩⟩⟩
   · rw [run_slice_lh w t _ _ _ ht .i64 .i64 _ _ (by omega) (by omega) (by omega), hz]
     rfl
   · rw [run_slice_h w t _ _ _ ht .i64 _ (by omega) (by omega), hz]
     rfl
   · rw [run_slice_l w t _ _ _ ht .i64 _ (by omega) (by omega), hz]
     rfl
 rotate_left
 · have n1 : hi = 0 := by omega
   have n2 : lo = 0 := by omega
   subst n1 n2
   refine ⟨.slice none 0 0, fun w => ?_, fun _ w => ?_, fun _ w => ?_, ⟨_, _, rfl, Nat.le_refl _⟩, fun w Q _ => ⟨hlen, .inl ⟨.inl rfl, rfl⟩⟩⟩
   · rw [run_slice_lh w t none 0 0 ht .i64 .i64 _ _ (by omega) (by omega) (by omega), hz]
     simp [Result.andThen, sliced]
   · rw [run_slice_h w t none 0 0 ht .i64 _ (by omega) (by omega), hz]
     simp [Result.andThen, sliced]
   · rw [run_slice_l w t none 0 0 ht .i64 _ (by omega) (by omega), hz]
     simp [Result.andThen, sliced]
 · have hle : m ≤ c := by
    obtain ⟨a, c', e, h⟩ := hc
    injection e with _ _ e
    omega
   have e : sliced (some ⟨g, o, none⟩) lo hi c size = .slice (some (cutAddr size g o lo c)) (hi - lo) (c - lo) := by
    unfold sliced cutAddr
    split <;> simp
   refine ⟨sliced (some ⟨g, o, none⟩) lo hi c size, fun w => ?_, fun e w => ?_, fun e w => ?_, ⟨_, _, e, by omega⟩, fun w Q hw => ⟨hlen, ?_⟩⟩
   · rw [run_slice_lh w t _ _ _ ht .i64 .i64 _ _ (by omega) (by omega) (by omega), hz]
     rfl
   · subst e
     rw [run_slice_h w t _ _ _ ht .i64 _ (by omega) (by omega), hz]
     rfl
   · subst e
     rw [run_slice_l w t _ _ _ ht .i64 _ (by omega) (by omega), hz]
     rfl
   · by_cases hm : c = lo
     · refine .inr ⟨g, o, c - lo, by rw [e]; unfold cutAddr; rw [if_pos hm], fun h => by omega, fun j u hj => ?_⟩
       have := (List.getElem?_eq_some_iff.1 hj).1
       rw [hlen, show hi - lo = 0 by omega, Nat.zero_mul] at this
       omega
     · refine .inr ⟨g, o + lo * size, c - lo, by rw [e, cutAddr_eq _ _ _ _ _ hm], fun h => ?_, fun j u hj => ?_⟩
       · obtain ⟨g', o', c', e', h3, h4, _⟩ := hw.pos (by omega)
         injection e' with e' _ _
         injection e' with e'
         injection e' with e' _ _
         rw [e']
         exact ⟨h3, h4⟩
       · have hj' := (List.getElem?_eq_some_iff.1 hj).1
         rw [hlen] at hj'
         rw [List.getElem?_take, if_pos hj', List.getElem?_drop] at hj
         have hmp : 0 < m := by
          rcases Nat.eq_zero_or_pos m with e0 | e0
          · rw [show hi - lo = 0 by omega, Nat.zero_mul] at hj'
            omega
          · exact e0
         obtain ⟨g', o', c', e', _, _, h5⟩ := hw.pos hmp
         injection e' with e' _ _
         injection e' with e'
         injection e' with e1' e2' _
         rw [e1', e2', Nat.add_assoc]
         exact h5 _ _ hj

end Go.Proofs.YtlcfoeikamkpmaaGreat

namespace Go.Proofs.YtlcfoeikamkpmaaGreat
open Go.RowKit Go.Wh Go.Maps

theorem convB0 {w : World} (a : Addr) (c : Nat) : (convert 22 9 (.slice (some a) 0 c)).run Tryz.prog w = .ok (.string (strOfNums [])) w := by
 have hl : (loadCells a 0).run Tryz.prog w = .ok (([] : List Int).map (Value.int .u8)).toArray w := by
  have := run_loadCells_list (P := Tryz.prog) w a (([] : List Int).map (Value.int .u8)) (fun j v hj => by simp at hj)
  simpa using this
 rw [run_convert_bytes_string w 22 9 5 _ 0 c Tryz.underlying22 Tryz.underlying5 Tryz.underlying9, run_bytesToString w a 0 c [] hl, foldl_push_bytes]
 simp [strOfNums, ByteArray.empty, ByteArray.emptyWithCapacity]
 rfl
theorem convB {w : World} {Q : Nat → Prop} {v : Value} {n : Nat} {l : List Int} (h : Sl w Q 1 v n (bc l)) : (convert 22 9 v).run Tryz.prog w = .ok (.string (strOfNums l)) w := by
 have hlen : l.length = n := by have := h.1; rw [bc_length] at this; omega
 rcases h.2 with ⟨rfl | ⟨a, c, rfl⟩, rfl⟩ | ⟨g, o, c, rfl, -, hv⟩
 rotate_left
 · have : l = [] := by cases l with | nil => rfl | cons a l => cases hlen
   subst this
   exact convB0 a c
 rotate_left
 · have : l = [] := by cases l with | nil => rfl | cons a l => cases hlen
   subst this
   exact run_convert_bytes_nil w 22 5 Tryz.underlying22 Tryz.underlying5 0 0 9 Tryz.underlying9
 · refine run_convert_bytes_arg w 22 5 Tryz.underlying22 Tryz.underlying5 g o n c l hlen (fun i hi => ?_) 9 Tryz.underlying9
   refine hv i _ (bc_get ?_)
   rw [List.getD_eq_getElem?_getD, List.getElem?_eq_getElem (by omega)]
   rfl
theorem str_inj {a b : List Int} (ha : Byt a) (hb : Byt b) (h : (strOfNums a).toList = (strOfNums b).toList) : a = b := by
 rw [ByteArray.toList_eq, ByteArray.toList_eq, strOfNums_data, strOfNums_data] at h
 induction a generalizing b with
 | nil => cases b with | nil => rfl | cons y b => cases h
 | cons x a ih =>
  cases b with
  | nil => cases h
  | cons y b =>
   simp only [List.map_cons, List.cons.injEq] at h
   have h1 := congrArg UInt8.toNat h.1
   rw [UInt8.toNat_ofNat', UInt8.toNat_ofNat'] at h1
   have hx := ha x (by simp)
   have hy := hb y (by simp)
   have e : x = y := by omega
   rw [e, ih (fun z hz => ha z (by simp [hz])) (fun z hz => hb z (by simp [hz])) h.2]
theorem str_eq {a b : List Int} (ha : Byt a) (hb : Byt b) : ((strOfNums a).toList == (strOfNums b).toList) = decide (a = b) := by
 by_cases h : a = b
 · subst h
   simp
 · rw [decide_eq_false h, beq_eq_false_iff_ne]
   exact fun e => h (str_inj ha hb e)

theorem equal_any {Q1 Q2 : Nat → Prop} (w : World) (v1 v2 : Value) (n1 n2 : Nat) (l1 l2 : List Int) (h1 : Sl w Q1 1 v1 n1 (bc l1)) (h2 : Sl w Q2 1 v2 n2 (bc l2)) (b1 : Byt l1) (b2 : Byt l2) :
 Calls Tryz.prog 68 #[v1, v2] w (SamePost w (.bool (decide (l1 = l2)))) := by
 have q1 := convB h1
 have q2 := convB h2
 have HE := Lib.hid (str_eq b1 b2)
 have F := Lib.hid (show SamePost w (.bool (decide (l1 = l2))) (.returned (.bool (decide (l1 = l2)))) w from ⟨rfl, rfl⟩)
 obtain ⟨a1, c1, rfl⟩ := h1.form
 obtain ⟨a2, c2, rfl⟩ := h2.form
 clear h1 h2 b1 b2
 rw [← HE.out] at F ⊢
 generalize strOfNums l1 = s1 at *
 generalize strOfNums l2 = s2 at *
 go_enter Tryz.func68, Tryz.ntmps68
 go_wp2_with fail
 go_ret
 exact F.out

theorem sumB_append (a : List Int) (c : Int) : ∀ s : Int × Int, sumB (a ++ [c]) s = (((sumB a s).1 + c) % 255, ((sumB a s).2 + ((sumB a s).1 + c) % 255) % 255) := by
 induction a with
 | nil => intro s; obtain ⟨x, y⟩ := s; rfl
 | cons b a ih =>
  intro s
  obtain ⟨x, y⟩ := s
  show sumB (a ++ [c]) _ = _
  rw [ih]
  rfl

set_option maxHeartbeats 1000000 in
theorem check_any {Q : Nat → Prop} (w : World) (v : Value) (n : Nat) (l : List Int) (h : Sl w Q 1 v n (bc l)) (hb : Byt l) (hn : n ≤ 100000) :
 Calls Tryz.prog 89 #[v] w (FreshPost w 1 2 (bc (chkB l))) := by
 have hlen : l.length = n := by have := h.1; rw [bc_length] at this; omega
 have H := Lib.hid (And.intro h (And.intro hb (And.intro hlen hn)))
 obtain ⟨a, c, rfl⟩ := h.form
 clear h hb hlen hn
 go_enter Tryz.func89, Tryz.ntmps89
 go_wp2_with fail
 go_loopw [3, 4, 9] (fun s3 s4 s9 wr => ∃ i : Nat, s9 = .int .i64 i ∧ i ≤ n ∧ wr = w ∧ s3 = .int .i64 (sumB (l.take i) (0, 0)).1 ∧ s4 = .int .i64 (sumB (l.take i) (0, 0)).2) (fun _ _ s9 _ => n - (intOf s9).toNat)
 case atStart => exact ⟨0, rfl, Nat.zero_le _, rfl, rfl, rfl⟩
 case round =>
  obtain ⟨i, rfl, hi, rfl, rfl, rfl⟩ := hrel
  by_cases hin : i < n
  · obtain ⟨g, o, c', he, -, -, hv⟩ := H.out.1.pos (by omega)
    injection he with he _ hec
    subst he hec
    obtain ⟨z, hz⟩ : ∃ z, l[i]? = some z := ⟨_, List.getElem?_eq_getElem (by have := H.out.2.2.1; omega)⟩
    have c1 : wr.cell? ⟨g, o + i, none⟩ = some (.int .u8 z) := hv i _ (bc_get hz)
    have hzb := H.out.2.1 z (List.mem_of_getElem? hz)
    have hsr := sumB_range (l.take i) (0, 0) (by decide) (by decide)
    have hap : sumB (l.take (i + 1)) (0, 0) = (((sumB (l.take i) (0, 0)).1 + z) % 255, ((sumB (l.take i) (0, 0)).2 + ((sumB (l.take i) (0, 0)).1 + z) % 255) % 255) := by
     rw [List.take_add_one, hz]
     exact sumB_append _ _ _
    have HAP := Lib.hid hap
    generalize (sumB (l.take i) (0, 0)).1 = x at *
    generalize (sumB (l.take i) (0, 0)).2 = y at *
    have d1 : decide ((i : Int) < (n : Int)) = true := by simp; omega
    have d2 : decide (i < n) = true := by simp; omega
    have d3 : (0 : Int) ≤ (i : Int) := by omega
    have d4 : (i : Int) < (n : Int) := by omega
    have u9 : IntKind.i64.wrap ((i : Int) + 1) = (i : Int) + 1 := IntWalk.i64_in _ (by have := H.out.2.2.2; omega)
    obtain ⟨⟨x0, x1⟩, y0, y1⟩ := hsr
    obtain ⟨z0, z1⟩ := hzb
    clear hap hz hv
    go_wp2_with fail
    go_roundw
    case rel => exact ⟨i + 1, by go_num, by omega, trivial, by rw [HAP.out], by rw [HAP.out]⟩
    case measure => simp [intOf]; omega
  · have hie : i = n := by omega
    have hta : l.take i = l := List.take_of_length_le (by have := H.out.2.2.1; omega)
    have hsr := sumB_range l (0, 0) (by decide) (by decide)
    rw [hta]
    have F := Lib.hid (fun t => show FreshPost wr 1 2 (bc (chkB l)) (.returned (.slice (some ⟨wr.heap.size, 0, none⟩) 2 2)) (wr.alloc (.cells #[.int .u8 (sumB l (0, 0)).1, .int .u8 (sumB l (0, 0)).2] t)) from by
     have hc := cellsAt_new wr [.int .u8 (sumB l (0, 0)).1, .int .u8 (sumB l (0, 0)).2] t
     exact ⟨_, rfl, vec_block (n := 2) (heap_alloc_new _ _) rfl (by simp only [maxLen]; omega), (Below.refl _ _).alloc (Nat.le_refl _) _, fun g hg => by cases hg; exact ⟨Nat.le_refl _, by simp⟩⟩)
    generalize (sumB l (0, 0)).1 = x at *
    generalize (sumB l (0, 0)).2 = y at *
    have d1 : decide ((i : Int) < (n : Int)) = false := by simp; omega
    have d2 : decide (i < n) = false := by simp; omega
    obtain ⟨⟨x0, x1⟩, y0, y1⟩ := hsr
    have f1 : IntKind.u8.wrap x = x := IntWalk.u8_in _ (by omega)
    have f2 : IntKind.u8.wrap y = y := IntWalk.u8_in _ (by omega)
    clear hta
    go_wp2_with fail
    go_ret
    exact F.out _
end Go.Proofs.YtlcfoeikamkpmaaGreat

namespace Go.Proofs.YtlcfoeikamkpmaaGreat
open Go.RowKit Go.Wh Go.Maps

structure TlAt (w : World) (t d at_ n : Nat) (S : List Int) (sv : Value) (c st : Nat) : Prop where
 cells : cellsAt w t [.pointer (some ⟨d, 0, none⟩), .int .i64 at_, .int .i64 n, sv, .int .i64 c, .int .i64 st]
 s : Vec w 1 sv S.length (bc S)
 byt : Byt S
 st_ : ∀ g, sv.ownBlock = some g → g ≠ t ∧ g < w.heap.size
section
variable {w w' : World} {t d at_ n c st : Nat} {S : List Int} {sv : Value}
theorem TlAt.only {X : Nat → Prop} (h : TlAt w t d at_ n S sv c st) (ho : Only X w w') (h1 : ¬ X t) (h2 : ∀ g, sv.ownBlock = some g → ¬ X g) : TlAt w' t d at_ n S sv c st :=
 ⟨h.cells.only ho h1, h.s.only ho h2, h.byt, fun g hg => ⟨(h.st_ g hg).1, Nat.lt_of_lt_of_le (h.st_ g hg).2 ho.size⟩⟩
theorem TlAt.still (h : TlAt w t d at_ n S sv c st) (hs : Still w w') : TlAt w' t d at_ n S sv c st := h.only hs (fun e => e) (fun _ _ e => e)
end

def StPost (w : World) (v : Value) (e : Ending) (w' : World) : Prop := e = .returned v ∧ Still w w'
theorem left_any (w : World) (t d at_ n : Nat) (S : List Int) (sv : Value) (c st : Nat) (h : TlAt w t d at_ n S sv c st) (hn : n ≤ 2000) (hS : S.length ≤ 1000000) :
 Calls Tryz.prog 61 #[.pointer (some ⟨t, 0, none⟩)] w (StPost w (.int .i64 (63 * (n : Int) - (S.length : Int)))) := by
 obtain ⟨a, k, rfl⟩ := h.s.form'
 have c2 : w.cell? ⟨t, 2, none⟩ = some (.int .i64 n) := h.cells.cell 2
 have c3 : w.cell? ⟨t, 3, none⟩ = some (.slice a S.length k) := h.cells.cell 3
 have F := Lib.hid (fun w' (hs : Still w w') => show StPost w (.int .i64 (63 * (n : Int) - (S.length : Int))) (.returned (.int .i64 (63 * (n : Int) - (S.length : Int)))) w' from ⟨rfl, hs⟩)
 have u1 : IntKind.i64.wrap (63 * (n : Int)) = 63 * (n : Int) := IntWalk.i64_in _ (by omega)
 generalize S.length = m at *
 have u2 : IntKind.i64.wrap (63 * (n : Int) - (m : Int)) = 63 * (n : Int) - (m : Int) := IntWalk.i64_in _ (by omega)
 clear h
 go_enter Tryz.func61, Tryz.ntmps61
 go_wp2_with fail
 go_quiet (fail)
 go_wp2_with fail
 go_ret
 exact F.out _ ((Still.refl _).drewN _)
theorem stable_any (w : World) (t d at_ n : Nat) (S : List Int) (sv : Value) (c st : Nat) (h : TlAt w t d at_ n S sv c st) :
 Calls Tryz.prog 25 #[.pointer (some ⟨t, 0, none⟩)] w (SamePost w (.int .i64 st)) := by
 have c5 : w.cell? ⟨t, 5, none⟩ = some (.int .i64 st) := h.cells.cell 5
 clear h
 go_enter Tryz.func25, Tryz.ntmps25
 go_wp2_with fail
 go_ret
 exact ⟨rfl, rfl⟩

theorem tile_cells (S : List Int) (i : Nat) : ((bc (List.replicate 64 0)).set 0 (.int .u8 ((partB S i).length : Int))).take 1 ++ bc (partB S i) ++ ((bc (List.replicate 64 0)).set 0 (.int .u8 ((partB S i).length : Int))).drop (1 + (partB S i).length) = bc (tileB S i) := by
 have hp := partB_length S i
 have e : (bc (List.replicate 64 0)).set 0 (.int .u8 ((partB S i).length : Int)) = .int .u8 ((partB S i).length : Int) :: bc (List.replicate 63 0) := rfl
 rw [e]
 unfold tileB bc
 rw [List.take_succ_cons, List.take_zero, show 1 + (partB S i).length = (partB S i).length + 1 from Nat.add_comm _ _, List.drop_succ_cons, List.map_replicate, List.drop_replicate]
 simp

def zeros64 : Array Value := (bc (List.replicate 64 0)).toArray
theorem take_len (l : List Int) (k : Nat) : l.take (l.take k).length = l.take k := by
 rw [List.length_take]
 rcases Nat.le_total k l.length with h | h
 · rw [Nat.min_eq_left h]
 · rw [Nat.min_eq_right h, List.take_length, List.take_of_length_le h]
set_option maxHeartbeats 2000000 in
set_option maxRecDepth 100000 in
theorem tile_any (w : World) (t d at_ n : Nat) (S : List Int) (sv : Value) (c st : Nat) (i : Nat) (h : TlAt w t d at_ n S sv c st) (hi : i ≤ 2000) (hS : S.length ≤ 1000000) :
 Calls Tryz.prog 67 #[.pointer (some ⟨t, 0, none⟩), .int .i64 i] w (FreshPost w 1 64 (bc (tileB S i))) := by
 have H := Lib.hid h
 obtain ⟨from_, hfrom⟩ : ∃ k, k = min (i * 63) S.length := ⟨_, rfl⟩
 obtain ⟨to_, hto⟩ : ∃ k, k = min (from_ + 63) S.length := ⟨_, rfl⟩
 obtain ⟨pv, r1, -, -, hpv⟩ := h.s.part (size := 1) 22 Tryz.underlying22 (fun w => rfl) (show from_ ≤ to_ by omega) (show to_ ≤ S.length by omega)
 have hpl := partB_length S i
 have hlen : to_ - from_ = (partB S i).length := by omega
 have hpc : ((bc S).drop (from_ * 1)).take ((to_ - from_) * 1) = bc (partB S i) := by
  rw [Nat.mul_one, Nat.mul_one, hlen, bc_drop, bc_take]
  unfold partB
  congr 1
  rcases Nat.le_total (i * 63) S.length with hle | hle
  · rw [show from_ = i * 63 by omega, take_len]
  · rw [List.drop_eq_nil_of_le hle, List.take_nil, List.length_nil, List.take_zero]
 rw [hpc, hlen] at hpv
 obtain ⟨sa, sk, rfl⟩ := h.s.form'
 have c3 : w.cell? ⟨t, 3, none⟩ = some (.slice sa S.length sk) := h.cells.cell 3
 obtain ⟨pa, pk, hpe⟩ := (hpv w h.s).form'
 subst hpe
 have HPV := Lib.hid (fun w' (hs : Still w w') => hpv w' (h.s.only hs fun _ _ e => e))
 have HP := Lib.hid (show (partB S i).length ≤ 63 from by omega)
 generalize hm : S.length = m at *
 have SS := Lib.hid (fun w' (hs : Still w w') => show w'.cell? ⟨t, 3, none⟩ = some (.slice sa m sk) from Still.cell hs c3)
 have hmk : ∀ w : World, (Instr.makeSlice 22 (.int .i64 64) (.int .i64 64)).run Tryz.prog w = .ok (.slice (some ⟨w.heap.size, 0, none⟩) 64 64) (w.alloc (.cells zeros64 5)) := make64
 have u1 : IntKind.i64.wrap ((i : Int) * 63) = (i : Int) * 63 := IntWalk.i64_in _ (by omega)
 have e1 : min ((i : Int) * 63) (m : Int) = (from_ : Int) := by omega
 have u2 : IntKind.i64.wrap ((from_ : Int) + 63) = (from_ : Int) + 63 := IntWalk.i64_in _ (by omega)
 have e2 : min ((from_ : Int) + 63) (m : Int) = (to_ : Int) := by omega
 have c3A := fun ob => Still.cell ((Still.refl w).alloc ob) c3
 have HC := Lib.hid (tile_cells S i)
 generalize hpp : (partB S i).length = pl at *
 have HPL := Lib.hid hpp
 clear h hpv hpc hpl hlen hfrom hto hm hi hS hpp
 go_enter Tryz.func67, Tryz.ntmps67
 go_upto_region 3 with fail
 have hz := cellsAt_new w (bc (List.replicate 64 0)) 5
 have hs1 : Still w (w.alloc (.cells zeros64 5)) := (Still.refl w).alloc _
 change cellsAt (w.alloc (.cells zeros64 5)) w.heap.size _ at hz
 have hzz : (w.alloc (.cells zeros64 5)).heap.size = w.heap.size + 1 := by simp
 clear hmk c3A
 generalize (w.alloc (.cells zeros64 5)) = w1 at *
 obtain ⟨b, hb⟩ : ∃ b, w.heap.size = b := ⟨_, rfl⟩
 rw [hb] at hz hzz
 rw [hb]
 have c3' := SS.out _ hs1
 have hP := HP.out
 have cb : w1.cell? ⟨b, 0, none⟩ = some (.int .u8 0) := hz.cell 0
 have fb : w1.frozen? ⟨b, 0, none⟩ = false := hz.free 0
 have pm : (pl : Int) % 256 = pl := by omega
 have rs : ∀ w : World, (Instr.slice 22 (.slice (some ⟨b, 0, none⟩) 64 64) (some (.int .i64 1)) none none).run Tryz.prog w = .ok (.slice (some ⟨b, 1, none⟩) 63 63) w := fun w => by kernel_rfl
 have hcp : ∀ q, ∃ w3, (Builtin.copy_ #[22, 22] 3 #[.slice (some ⟨b, 1, none⟩) 63 63, .slice pa pl pk]).run Tryz.prog ((w1.drewN q).setCell ⟨b, 0, none⟩ (.int .u8 (pl : Int))) = .ok (.int .i64 (pl : Int)) w3 ∧ FreshPost w 1 64 (bc (tileB S i)) (.returned (.slice (some ⟨b, 0, none⟩) 64 64)) w3 := fun q => by
  have hz2 : cellsAt ((w1.drewN q).setCell ⟨b, 0, none⟩ (.int .u8 (pl : Int))) b ((bc (List.replicate 64 0)).set 0 (.int .u8 (pl : Int))) := (show cellsAt (w1.drewN q) b (bc (List.replicate 64 0)) from hz).setCell 0 _
  have hs2 : Only (fun k => k = b) w ((w1.drewN q).setCell ⟨b, 0, none⟩ (.int .u8 (pl : Int))) := Only.setCell (S := fun k => k = b) ((hs1.drewN q).mono fun _ e => e.elim) (.inl rfl) _
  have hv2 : VecAt ((w1.drewN q).setCell ⟨b, 0, none⟩ (.int .u8 (pl : Int))) 1 b 0 64 64 ((bc (List.replicate 64 0)).set 0 (.int .u8 (pl : Int))) := by
   obtain ⟨tt, hb2⟩ := hz2
   have := vecAt_block (size := 1) (n := 64) (cap := 64) hb2 rfl (by omega) (by simp only [maxLen]; omega)
   exact this
  have hpv2 : Vec ((w1.drewN q).setCell ⟨b, 0, none⟩ (.int .u8 (pl : Int))) 1 (.slice pa pl pk) pl (bc (partB S i)) := by
   exact Vec.kept (HPV.out w (Still.refl w)) fun g hg hl => hs2.block g hl fun e => by
    have e' : g = b := e
    omega
  have key : ∀ cs : List Value, cs = bc (partB S i) → ∀ w3, w3 = ((w1.drewN q).setCell ⟨b, 0, none⟩ (.int .u8 (pl : Int))).setCells b 1 cs → VecAt w3 1 b 0 64 64 (((bc (List.replicate 64 0)).set 0 (.int .u8 (pl : Int))).take 1 ++ cs ++ ((bc (List.replicate 64 0)).set 0 (.int .u8 (pl : Int))).drop (1 + pl)) → FreshPost w 1 64 (bc (tileB S i)) (.returned (.slice (some ⟨b, 0, none⟩) 64 64)) w3 := fun cs hcs w3 hw3 hva => by
   subst hcs
   rw [HC.out] at hva
   have hs3 : Only (fun k => k = b) w w3 := by
    rw [hw3]
    exact hs2.trans (Go.Wh.setCells_only _ b 1 _)
   refine ⟨_, rfl, .inr ⟨_, _, _, rfl, hva⟩, hs3.below (Nat.le_refl _) fun i hi e => by omega, fun g hg => ?_⟩
   have e : b = g := Option.some.inj hg
   have := hva.lt (by omega)
   omega
  rcases hpv2 with ⟨he, hn0, hnil⟩ | ⟨g, o, cc, he, hpa⟩
  · injection he with e1 e2 e3
    subst e1 e2 e3
    refine ⟨_, ?_, key [] hnil.symm _ rfl ?_⟩
    · simp [Builtin.copy_, run_underlying Tryz.underlying22, Builtin.lenOf, Builtin.firstCells, World.setCells, goInt, storeCells, Result.andThen]
    · rw [List.append_nil, List.take_append_drop]
      exact hv2
  · injection he with e1 e2 e3
    subst e1 e3
    have hmn : Nat.min pl 63 = pl := Nat.min_eq_left hP
    have h := run_copy_at (P := Tryz.prog) (size := 1) 22 22 3 5 Tryz.underlying22 (by kernel_rfl) hv2 1 63 63 ⟨g, o, none⟩ pl pk (bc (partB S i)) (by rw [bc_length, HPL.out, hmn]; omega) (by rw [hmn]; omega) (fun j u hj => by
     rw [Addr.add_lit]
     have hj' := (List.getElem?_eq_some_iff.1 hj).1
     have hlp := hpa.len
     rw [hpa.cells j (by omega)]
     exact hj) (bc_one _)
    rw [hmn] at h
    refine ⟨_, h.1, key _ rfl _ rfl ?_⟩
    simpa using h.2
 have HZ := Lib.hid (And.intro hs1 (And.intro hb hzz))
 clear hz hs1 hb hzz c3
 go_quiet (fail)
 obtain ⟨w3, hrun, hpost⟩ := hcp nq
 have F := Lib.hid hpost
 clear hpost hcp
 go_wp2_with fail
 go_ret
 exact F.out
end Go.Proofs.YtlcfoeikamkpmaaGreat

namespace Go.Proofs.YtlcfoeikamkpmaaGreat
open Go.RowKit Go.Wh Go.Maps

theorem readB_cons (s : List Int) (l : List (List Int)) : readB (s :: l) = if 63 < s.headD 0 then [] else (s.drop 1).take (s.headD 0).toNat ++ (if s.headD 0 < 63 then [] else readB l) := rfl

def tls (T : List (List Int)) (a n : Nat) : List (List Int) := (T.drop a).take n
theorem tls_get {T : List (List Int)} {a n i : Nat} {l : List Int} (h : T[a + i]? = some l) (hi : i < n) : (tls T a n).drop i = l :: (tls T a n).drop (i + 1) := by
 have h1 : (tls T a n)[i]? = some l := by
  unfold tls
  rw [List.getElem?_take, if_pos hi, List.getElem?_drop]
  exact h
 obtain ⟨hl, he⟩ := List.getElem?_eq_some_iff.1 h1
 rw [List.drop_eq_getElem_cons hl, he]

structure RdRel (w : World) (i : Nat) (u : Value) (acc : List Int) (wr : World) : Prop where
 v : Vec wr 1 u acc.length (bc acc)
 still : Still w wr
 own : ∀ g, u.ownBlock = some g → w.heap.size ≤ g ∧ g < wr.heap.size
 byt : Byt acc
 len : acc.length ≤ 63 * i

theorem RdRel.next {w wr w1 w2 : World} {i : Nat} {u v' : Value} {acc part : List Int} {X : Nat} (h : RdRel w i u acc wr) (hs : Still wr w1) (hv : Vec w2 1 v' (acc.length + X) (bc acc ++ bc part)) (hX : part.length = X) (ho : Only (fun k => u.ownBlock = some k) w1 w2)
 (hb : v'.ownBlock = u.ownBlock ∨ ∃ g, v'.ownBlock = some g ∧ w1.heap.size ≤ g ∧ g < w2.heap.size) (hp : Byt part) (hl : part.length ≤ 63) {j : Nat} (hj : i + 1 = j) : RdRel w j v' (acc ++ part) w2 := by
 have z1 := h.still.size
 have z2 := hs.size
 have z3 := ho.size
 have h1 := h.still.trans hs
 refine ⟨?_, h1.andThen ho fun k hk e => by have := (h.own k e).1; omega, fun g hg => ?_, h.byt.append hp, ?_⟩
 · rw [List.length_append, hX, bc_append]
   exact hv
 · rcases hb with e | ⟨g', e, e1, e2⟩
   · rw [e] at hg
     have := h.own g hg
     omega
   · rw [e] at hg
     injection hg with hg
     omega
 · rw [List.length_append]
   have := h.len
   omega

def RdPost (w : World) (B : List Int) (e : Ending) (w' : World) : Prop := ∃ v, e = .returned (.tuple #[v, .int .i64 0]) ∧ Vec w' 1 v B.length (bc B) ∧ Still w w' ∧ (∀ g, v.ownBlock = some g → w.heap.size ≤ g ∧ g < w'.heap.size) ∧ Byt B

end Go.Proofs.YtlcfoeikamkpmaaGreat
