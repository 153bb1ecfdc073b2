/- A region that draws its order, some of whose operations may come in many orders: what they leave is told by one relation, and each is looked at once. No conditions. The disk: write, sync, a new one. Conditions: it lies in memory, alive, nothing to be cut. The disk: sync, a new one. Conditions: it lies in memory, alive, nothing to be cut; at most two thousand tiles. Slices that are made and appended to in one region, in whatever order: each is what it must be, all lie apart. No conditions. Slices that are read: they lie in blocks of a set. No conditions. -/
import Derived.Test.YtlcfoeikamkpmaaGreatPq03
import Derived.Laws.MakeOwn
import Derived.Deep.DeepCutAuto
import Derived.Deep.CutBlock
namespace Go.Wh

def upN {α : Type} (f : Nat → α) (i : Nat) (v : α) : Nat → α := fun j => if j = i then v else f j
def fillA (B : List (Nat × Nat)) (xs : Nat → Value) (a : Act) : Act := B.foldl (fun a p => a.put (some p.2) (xs p.1)) a
def lst (listed : Array Bool) : Nat → Bool := fun j => listed.getD j false

theorem put_put (a : Act) (t : Nat) (u v : Value) : (a.put (some t) u).put (some t) v = a.put (some t) v := by
 simp [Act.put]

theorem fillA_cons (p : Nat × Nat) (B : List (Nat × Nat)) (xs : Nat → Value) (a : Act) : fillA (p :: B) xs a = fillA B xs (a.put (some p.2) (xs p.1)) := rfl

theorem fillA_comm {t : Nat} : ∀ {B : List (Nat × Nat)} (xs : Nat → Value) (a : Act) (v : Value), (∀ p ∈ B, p.2 ≠ t) → (fillA B xs a).put (some t) v = fillA B xs (a.put (some t) v)
 | [], _, _, _, _ => rfl
 | p :: B, xs, a, v, h => by
  rw [fillA_cons, fillA_cons, fillA_comm xs _ v (fun q hq => h q (by simp [hq])), Act.put_comm a (x := some p.2) (y := some t) (xs p.1) v (fun d hd e => h p (by simp) (by cases hd; cases e; rfl))]

theorem fillA_congr : ∀ {B : List (Nat × Nat)} {xs ys : Nat → Value} (a : Act), (∀ p ∈ B, xs p.1 = ys p.1) → fillA B xs a = fillA B ys a
 | [], _, _, _, _ => rfl
 | p :: B, xs, ys, a, h => by
  rw [fillA_cons, fillA_cons, h p (by simp)]
  exact fillA_congr _ fun q hq => h q (by simp [hq])

def apartB : List (Nat × Nat) → Bool
 | [] => true
 | p :: B => B.all (fun q => q.1 != p.1 && q.2 != p.2) && apartB B

theorem fillA_put {i t : Nat} : ∀ {B : List (Nat × Nat)} (xs : Nat → Value) (a : Act) (v : Value), apartB B = true → (i, t) ∈ B → (fillA B xs a).put (some t) v = fillA B (upN xs i v) a
 | [], _, _, _, _, h => by cases h
 | p :: B, xs, a, v, hn, h => by
  simp only [apartB, Bool.and_eq_true, List.all_eq_true, bne_iff_ne] at hn
  rcases List.mem_cons.1 h with rfl | h
  · rw [fillA_cons, fillA_cons, fillA_comm xs _ v (fun q hq => (hn.1 q hq).2), put_put]
    have e : upN xs i v i = v := by simp [upN]
    rw [e]
    exact fillA_congr _ fun q hq => by simp [upN, (hn.1 q hq).1]
  · rw [fillA_cons, fillA_cons, fillA_put xs _ v hn.2 h]
    have e : upN xs i v p.1 = xs p.1 := by
     have := (hn.1 _ h).1
     simp only at this
     simp [upN, Ne.symm this]
    rw [e]

theorem put_same {a : Act} {t : Nat} : a.put (some t) (a.tmps.getD t undef) = a := by
 cases a with
 | mk tmps defers =>
  simp only [Act.put, Act.mk.injEq, and_true]
  apply Array.ext (by simp)
  intro j h1 h2
  rw [Array.getElem_setIfInBounds]
  split
  · subst_vars
    rw [Array.getD_eq_getD_getElem?, Array.getElem?_eq_getElem h2]
    rfl
  · rfl

theorem fillA_same (a : Act) : ∀ (B : List (Nat × Nat)) {xs : Nat → Value}, (∀ p ∈ B, xs p.1 = a.tmps.getD p.2 undef) → fillA B xs a = a
 | [], _, _ => rfl
 | p :: B, xs, h => by
  rw [fillA_cons, h p (by simp), put_same]
  exact fillA_same a B fun q hq => h q (by simp [hq])

def okM (md : Region.Mode) (ops : Array Oper) (B : List Nat) (dep : Nat → List Nat) (fin : Array Bool) : Nat → Array Bool → Bool
 | 0, listed => listed == fin
 | f + 1, listed => !(Region.ready md ops listed).isEmpty && (Region.ready md ops listed).all fun i => B.contains i && (dep i).all (fun j => listed.getD j false) && okM md ops B dep fin f (listed.setIfInBounds i true)

section
variable {P : Program} {ops : Array Oper} {Q : Exit → Act → World → Prop} {md : Region.Mode} {S : World → Prop} {D : Nat → Bool}

theorem lst_set {listed : Array Bool} {i : Nat} (h : listed.getD i true = false) : lst (listed.setIfInBounds i true) = upN (lst listed) i true := by
 funext j
 unfold lst upN
 have hi : i < listed.size := by
  rcases Nat.lt_or_ge i listed.size with h' | h'
  · exact h'
  · simp [Array.getElem?_eq_none h'] at h
 by_cases hj : j = i
 · subst hj
   simp [hi]
 · rw [if_neg hj]
   simp [Array.getElem?_setIfInBounds_ne (Ne.symm hj)]

def StepM (P : Program) (ops : Array Oper) (Q : Exit → Act → World → Prop) (J : (Nat → Bool) → (Nat → Value) → World → Prop) (B : List (Nat × Nat)) (dep : Nat → List Nat) (a : Act) (i t : Nat) : Prop :=
 ∀ (L : Nat → Bool) (xs : Nat → Value) (w : World), (∀ j ∈ dep i, L j = true) → L i = false → J L xs w → wpOp P ops Q i (fun a' w' => ∃ v, a' = (fillA B xs a).put (some t) v ∧ J (upN L i true) (upN xs i v) w') (fillA B xs a) w

theorem StepM.of {J : (Nat → Bool) → (Nat → Value) → World → Prop} {B : List (Nat × Nat)} {dep : Nat → List Nat} {a : Act} {i t : Nat} {o : Oper} (ho : ops[i]? = some o)
 (h : ∀ (L : Nat → Bool) (xs : Nat → Value) (w : World), (∀ j ∈ dep i, L j = true) → L i = false → J L xs w → ∀ K' : Act → World → Prop, Shut (∀ v w', J (upN L i true) (upN xs i v) w' → ∀ a', a' = (fillA B xs a).put (some t) v → K' a' w') →
  if Region.wanted o (yielded ops (fillA B xs a).tmps) = true then Oper.wp P o (fillA B xs a) w K' Q else K' ((fillA B xs a).put o.dst undef) w) : StepM P ops Q J B dep a i t :=
 fun L xs w hd hl hj => wpOp_step ho fun K' hK => h L xs w hd hl hj K' fun v w' hJ a' ha => hK a' w' ⟨v, ha, hJ⟩

theorem wpAnyD_merge {J : (Nat → Bool) → (Nat → Value) → World → Prop} {B : List (Nat × Nat)} {dep : Nat → List Nat} {a : Act} {fin : Array Bool} {fuel : Nat} (hB : apartB B = true) (hS : ∀ L xs w, J L xs w → S w)
 (step : ∀ p ∈ B, StepM P ops Q J B dep a p.1 p.2) (tail : ∀ xs w, J (lst fin) xs w → wpAnyD P md ops Q S D fuel fin (fillA B xs a) w) :
 ∀ (f : Nat) (listed : Array Bool) (xs : Nat → Value) (w : World), okM md ops (B.map (·.1)) dep fin f listed = true → J (lst listed) xs w → wpAnyD P md ops Q S D (fuel + f) listed (fillA B xs a) w
 | 0, listed, xs, w, hok, hJ => by
  have : listed = fin := by simpa [okM] using hok
  subst this
  exact tail xs w hJ
 | f + 1, listed, xs, w, hok, hJ => by
  simp only [okM, Bool.and_eq_true, List.all_eq_true] at hok
  refine ⟨fun h => ?_, fun i hi => ?_⟩
  · rw [h] at hok
    simp at hok
  · obtain ⟨⟨h1, h2⟩, h3⟩ := hok.2 i hi
    obtain ⟨p, hp, hpi⟩ := List.mem_map.1 (List.contains_iff_mem.1 h1)
    obtain ⟨i', t⟩ := p
    subst hpi
    have hl0 := (mem_ready.1 hi).1
    have hl : lst listed i' = false := by
     unfold lst
     rcases Nat.lt_or_ge i' listed.size with h' | h'
     · simp [h'] at hl0 ⊢; exact hl0
     · simp [Array.getElem?_eq_none h'] at hl0
    refine wpOp_mono ?_ (step _ hp (lst listed) xs w (fun j hj => h2 j hj) hl hJ)
    rintro a' w' ⟨v, rfl, hJ'⟩
    rw [fillA_put xs a v hB hp]
    refine ⟨fun _ => hS _ _ _ hJ', wpAnyD_merge hB hS step tail f _ _ _ h3 ?_⟩
    rw [lst_set hl0]
    exact hJ'

theorem wpAnyD_merged {J : (Nat → Bool) → (Nat → Value) → World → Prop} (B : List (Nat × Nat)) (dep : Nat → List Nat) (fin : Array Bool) {a : Act} {w : World} {fuel n : Nat} {listed : Array Bool} (hn : n = fuel + B.length) (hB : apartB B = true) (hok : okM md ops (B.map (·.1)) dep fin B.length listed = true)
 (hS : ∀ L xs w, J L xs w → S w) (hJ : ∀ xs, J (lst listed) xs w) (step : ∀ p ∈ B, StepM P ops Q J B dep a p.1 p.2) (tail : ∀ xs w, J (lst fin) xs w → wpAnyD P md ops Q S D fuel fin (fillA B xs a) w) : wpAnyD P md ops Q S D n listed a w := by
 subst hn
 have hx : ∃ xs : Nat → Value, ∀ p ∈ B, xs p.1 = a.tmps.getD p.2 undef := by
  clear hok step tail hJ
  induction B with
  | nil => exact ⟨fun _ => undef, fun _ h => by cases h⟩
  | cons p B ih =>
   simp only [apartB, Bool.and_eq_true, List.all_eq_true, bne_iff_ne] at hB
   obtain ⟨xs, hx⟩ := ih hB.2
   refine ⟨upN xs p.1 (a.tmps.getD p.2 undef), fun q hq => ?_⟩
   rcases List.mem_cons.1 hq with rfl | hq
   · simp [upN]
   · simp [upN, (hB.1 q hq).1, hx q hq]
 obtain ⟨xs, hx⟩ := hx
 have h := wpAnyD_merge hB hS step tail B.length listed xs w hok (hJ xs)
 rwa [fillA_same a B hx] at h
end
end Go.Wh

namespace Go.Proofs.YtlcfoeikamkpmaaGreat
open Go.RowKit Go.Wh Go.Maps
open Go.ChangeMaps (setBlock heap_setBlock_same heap_setBlock_other)

theorem setCell_only (w : World) (p : Addr) (u : Value) : Only (fun k => k = p.block) w (w.setCell p u) := (Only.refl (fun k => k = p.block) w).setCell (.inl rfl) u

theorem make64 (w : World) : (Instr.makeSlice 22 (.int .i64 64) (.int .i64 64)).run Tryz.prog w = .ok (.slice (some ⟨w.heap.size, 0, none⟩) 64 64) (w.alloc (.cells (bc (List.replicate 64 0)).toArray 5)) := by
 obtain ⟨i, hi, hz0, hz1, hz2⟩ := info_parts info_b
 have h := run_makeSlice (P := Tryz.prog) (w := w) 22 5 i (.int .u8 0) Tryz.underlying22 hi hz0 .i64 .i64 64 64 (by omega) (by omega) (by rw [hz1]; decide) (by rw [hz2]; decide) (by decide)
 rw [hz1] at h
 have e : madeCells (Value.int .u8 0).cells (Int.toNat 64 * 1) = (bc (List.replicate 64 0)).toArray := by kernel_rfl
 rw [e] at h
 exact h

theorem kmap.clear {P : Program} {k : TypeId} {α : Type} {E : α → Value} {w : World} {b : Nat} {V : α → Option Value} {t e ty : TypeId} (h : kmap w P k E b V) (ht : P.underlying t = some (.map k e)) :
 ∃ w', (Builtin.clear_ #[t] ty #[.map (some b)]).run P w = .ok (.tuple #[]) w' ∧ kmap w' P k E b (fun _ => none) ∧ w.grownBy w' (some b) ∧ w'.heap.size = w.heap.size := by
 obtain ⟨es, clock, hb, -⟩ := h
 refine ⟨setBlock w b (.map #[] clock), ?_, ⟨#[], clock, heap_setBlock_same hb _, MapKept.stamped_empty _, by simp, by simp, by simp⟩, ⟨rfl, rfl, rfl, by simp [setBlock], fun i _ hi => heap_setBlock_other hb _ (fun e => hi (by rw [e]))⟩, by simp [setBlock]⟩
 simp [Builtin.clear_, run_underlying ht, MapKept.run_getObj_map hb, MapKept.run_setObj_map _ hb, Result.andThen, setBlock]
theorem wpList_clear_k {P : Program} {k : TypeId} {α : Type} {E : α → Value} {w : World} {b : Nat} {V : α → Option Value} {ops : Array Oper} {rest : List Oper} {o : Oper} {a : Act} {Q : Exit → Act → World → Prop} (hg : o.guard = none) (m : Operand) (t : TypeId)
 (hop : o.op = Op.call { callee := Callee.builtin Builtin.clear, args := #[m], argTypes := #[t] }) (e : TypeId) (ht : P.underlying t = some (.map k e)) (hm : a.eval m = .map (some b)) (h : kmap w P k E b V)
 (hK : ∀ w', kmap w' P k E b (fun _ => none) → w.grownBy w' (some b) → w'.heap.size = w.heap.size → wpList P ops Q rest (a.put o.dst (.tuple #[])) w') : wpList P ops Q (o :: rest) a w := by
 refine wpList_plain hg fun K' hK' => ?_
 obtain ⟨w', hrun, r1, r2, r3⟩ := kmap.clear (ty := o.type) h ht
 unfold Oper.wp
 simp [execOp, hop, resolve, invoke, builtin, hm, hrun, Result.andThen]
 exact hK' _ _ (hK w' r1 r2 r3)

section
variable {w w' : World} {d mb : Nat} {T : List (List Int)} {tv : Value} {vs : List Value}
theorem DkAt.map (h : DkAt w d T tv mb vs) {V : Int → Option Value} (hk : kmap w' Tryz.prog 3 (fun z : Int => .int .i64 z) mb V) (ho : Only (fun b => b = mb) w w') : DkAt w' d T tv mb vs := by
 refine ⟨h.cells.only ho h.dm, h.t.only ho (fun g hg e => (h.td g hg).2.1 e), fun i l hi => ?_, ⟨V, hk⟩, h.dm, fun g hg => ?_, fun v hv g hg => ?_, h.one⟩
 · obtain ⟨v, hv, hr⟩ := h.ins i l hi
   exact ⟨v, hv, Reads.only hr ho fun g hg e => (h.ia v (List.mem_of_getElem? hv) g hg).2.1 e⟩
 · have := h.td g hg
   exact ⟨this.1, this.2.1, Nat.lt_of_lt_of_le this.2.2 ho.size⟩
 · have := h.ia v hv g hg
   exact ⟨this.1, this.2.1, this.2.2.1, Nat.lt_of_lt_of_le this.2.2.2 ho.size⟩
theorem DkAt.put {g o c i : Nat} {l : List Int} {v : Value} (h : DkAt w d T tv mb vs) (htv : tv = .slice (some ⟨g, o, none⟩) T.length c) (hi : i < T.length) (hv : Reads w 1 v 64 (bc l)) (hf : ∀ g', v.ownBlock = some g' → g' ≠ d ∧ g' ≠ mb ∧ g' ≠ g ∧ g' < w.heap.size) (h1 : v.oneCell' = true) :
 DkAt (w.setCell ⟨g, o + i, none⟩ v) d (T.set i l) tv mb (vs.set i v) := by
 subst htv
 have ho := setCell_only w ⟨g, o + i, none⟩ v
 have hgd := h.td g rfl
 have hz : (w.setCell ⟨g, o + i, none⟩ v).heap.size = w.heap.size := by simp [World.setCell]
 have hlen : vs.length = T.length := by have := h.t.len; omega
 refine ⟨h.cells.only ho (fun e => hgd.1 e.symm), ?_, fun j l' hj => ?_, ?_, h.dm, fun g' hg' => ?_, fun u hu g' hg' => ?_, fun u hu => ?_⟩
 · rw [List.length_set]
   obtain ⟨g', o', c', he, ht⟩ := h.t.form (by omega)
   injection he with he _ hec
   injection he with he
   injection he with hg ho'
   subst hg ho' hec
   exact .inr ⟨_, _, _, rfl, ht.set i (by omega) v⟩
 · by_cases e : i = j
   · subst e
     rw [List.getElem?_set_self hi] at hj
     cases hj
     refine ⟨v, List.getElem?_set_self (by omega), Reads.only hv ho fun g' hg' e => (hf g' hg').2.2.1 e⟩
   · rw [List.getElem?_set_ne e] at hj
     obtain ⟨u, hu, hr⟩ := h.ins j l' hj
     refine ⟨u, by rw [List.getElem?_set_ne e]; exact hu, Reads.only hr ho fun g' hg' e => (h.ia u (List.mem_of_getElem? hu) g' hg').2.2.1 (by rw [show g' = g from e]; rfl)⟩
 · obtain ⟨V, hm⟩ := h.m
   exact ⟨V, hm.block (ho.block mb hm.lt fun e => hgd.2.1 (show mb = g from e).symm)⟩
 · have := h.td g' hg'
   rw [hz]
   exact this
 · rw [hz]
   rcases List.mem_or_eq_of_mem_set hu with hu | rfl
   · exact h.ia u hu g' hg'
   · have := hf g' hg'
     exact ⟨this.1, this.2.1, fun e => this.2.2.1 (Option.some.inj e).symm, this.2.2.2⟩
 · rcases List.mem_or_eq_of_mem_set hu with hu | rfl
   · exact h.one u hu
   · exact h1
end

def WrPost (w : World) (d : Nat) (T' : List (List Int)) (tv : Value) (mb : Nat) (vs : List Value) (e : Ending) (w' : World) : Prop :=
 e = .returned (.int .i64 0) ∧ ∃ vs', DkAt w' d T' tv mb vs' ∧ Only (fun b => b = mb ∨ tv.ownBlock = some b) w w' ∧ ∀ u ∈ vs', u ∈ vs ∨ ∀ g, u.ownBlock = some g → w.heap.size ≤ g

theorem intK (i : Nat) (hi : i ≤ 100000) : keyOf Tryz.prog 3 (.int .i64 (i : Int)) = some (.int .i64 (i : Int)) := keyOf_int_mk Tryz.underlying3 (by
 have e1 : IntKind.i64.min = -9223372036854775808 := by decide
 have e2 : IntKind.i64.max = 9223372036854775807 := by decide
 simp only [Lit.wf, e1, e2, Bool.and_eq_true, decide_eq_true_eq]
 omega)

set_option maxHeartbeats 2000000 in
set_option maxRecDepth 100000 in
theorem write_any (w : World) (d : Nat) (T : List (List Int)) (tv : Value) (mb : Nat) (vs : List Value) (i : Nat) (l : List Int) (bv : Value) (h : DkAt w d T tv mb vs) (hi : i < T.length) (hT : T.length ≤ 2000) (hb : Reads w 1 bv 64 (bc l)) (hbm : ∀ g, bv.ownBlock = some g → g ≠ mb) :
 Calls Tryz.prog 14 #[.pointer (some ⟨d, 0, none⟩), .int .i64 i, bv] w (WrPost w d (T.set i l) tv mb vs) := by
 have HM := Lib.hid (may_any w d T tv mb vs i h hi)
 have H := Lib.hid h
 obtain ⟨ba, bcap, rfl⟩ := Reads.form hb
 have HB := Lib.hid (And.intro hb hbm)
 obtain ⟨g, o, c, htv, ht⟩ := h.t.form (by omega)
 have HI := Lib.hid (And.intro hi hT)
 subst htv
 obtain ⟨V, hm⟩ := h.m
 have HMB := Lib.hid hm
 have c0 : w.cell? ⟨d, 0, none⟩ = some (.slice (some ⟨g, o, none⟩) T.length c) := h.cells.cell 0
 have c1 : w.cell? ⟨d, 1, none⟩ = some (.map (some mb)) := h.cells.cell 1
 obtain ⟨v, hv⟩ : ∃ v, vs[i]? = some v := ⟨_, List.getElem?_eq_getElem (by have := ht.len; omega)⟩
 have cv : w.cell? ⟨g, o + i, none⟩ = some v := by rw [ht.cells i (by omega)]; exact hv
 have b1 : (0 : Int) ≤ (i : Int) := by omega
 have b2 : (i : Int) < (T.length : Int) := by omega
 have hl : (Instr.lookup 80 (.map (some mb)) (.int .i64 (i : Int)) true).run Tryz.prog w = .ok (.tuple #[(V (i : Int)).getD (.slice none 0 0), .bool (V (i : Int)).isSome]) w :=
  hm.lookup (int_keyed Tryz.underlying3) Tryz.underlying80 (intK i (by omega)) (z := .slice none 0 0) (by kernel_rfl) true
 have HG := Lib.hid (show g ≠ mb ∧ g ≠ d ∧ d ≠ mb from ⟨(h.td g rfl).2.1, (h.td g rfl).1, h.dm⟩)
 have HVI := Lib.hid hv
 clear h hb hbm ht hm hv hi hT
 go_enter Tryz.func14, Tryz.ntmps14
 go_wp2_with fail
 refine HM.out.mono ?_
 rintro e w1 ⟨rfl, rfl⟩
 go_upto_if 29 with fail
 go_cut [8, 9] (fun _ _ wc => ∃ V', Only (fun b => b = mb) w1 wc ∧ kmap wc Tryz.prog 3 (fun z : Int => .int .i64 z) mb V')
 case first =>
  cases hov : V (i : Int) with
  | some u =>
   clear hl hov
   go_wp2_with fail
   go_meet
   case rel => exact ⟨V, Only.refl _ _, HMB.out⟩
  | none =>
   clear hl hov
   go_wp2_with fail
   go_still_tail 12, (by kernel_rfl)
   change wpList _ _ _ _ _ w1.drew
   refine wpList_mapUpdate_k rfl _ _ _ _ rfl 22 (int_keyed Tryz.underlying3) (fun x y h => by injection h) Tryz.underlying80 rfl (HMB.out.block rfl : kmap w1.drew _ _ _ _ _) (i : Int) rfl ⟨_, intK i (by have := HI.out; omega)⟩ _ rfl ?_
   intro w3 hk3 hg3 hs3
   have F := Lib.hid (show ∃ V', Only (fun b => b = mb) w1 w3 ∧ kmap w3 Tryz.prog 3 (fun z : Int => .int .i64 z) mb V' from ⟨_, Only.undrew (Only.grown hg3 fun j e => (Option.some.inj e).symm), hk3⟩)
   clear hk3 hg3 hs3
   go_wp2_with fail
   go_meet
   case rel => exact F.out
 case rest =>
  obtain ⟨V', ho, hk⟩ := hcut
  have h2 := H.out.map hk ho
  have H2 := Lib.hid h2
  have HO := Lib.hid ho
  have c0' : wc.cell? ⟨d, 0, none⟩ = some (.slice (some ⟨g, o, none⟩) T.length c) := h2.cells.cell 0
  have hb2 : Reads wc 1 (.slice ba 64 bcap) 64 (bc l) := Reads.only HB.out.1 ho fun g' hg' => HB.out.2 g' hg'
  have cv2 : wc.cell? ⟨g, o + i, none⟩ = some v := (Only.cell ho (World.block_lt_of_cell? _ _ cv) HG.out.1).trans cv
  have HCL := Lib.hid (fun w' (hs : Still wc w') => clone_b (.slice ba 64 bcap) 64 (bc l) w' (Reads.still hb2 hs) (bc_one l) (by omega))
  have SS := Lib.hid (fun w' (hs : Still wc w') => show w'.cell? ⟨d, 0, none⟩ = some (.slice (some ⟨g, o, none⟩) T.length c) from Still.cell hs c0')
  have HCV := Lib.hid cv2
  have hfr : ∀ w', Still wc w' → w'.frozen? ⟨g, o + i, none⟩ = false := fun w' hs => by
   obtain ⟨g', o', c', he, ht⟩ := (h2.still hs).t.form (by have := HI.out; omega)
   injection he with he _ _
   injection he with he
   injection he with e1 e2
   subst e1 e2
   exact ht.free i (by have := HI.out; omega)
  have HFR := Lib.hid hfr
  clear h2 ho hk hb2 hfr cv cv2 hl c0 c1
  go_wp2_with fail
  refine wp_region_D_drew (D := (fun i => [0, 1, 2, 4, 5, 7, 8].contains i)) (S := (fun w' => w'.cell? ⟨d, 0, none⟩ = some (.slice (some ⟨g, o, none⟩) T.length c))) (by kernel_rfl) ?_ (fun hHeld => ?_)
  · exact SS.out _ (still_drew _)
  (refine takeD (i := 0) (some 42) (v := ?_) rfl (by rfl) (by rfl) (by kernel_rfl) (by rfl) (fun _ _ _ h => h) ?_ ?_; rotate_left; (intro w; go_simp; try with_reducible rfl); try go_frame)
  (refine takeD (i := 1) (some 43) (v := ?_) rfl (by rfl) (by rfl) (by kernel_rfl) (by rfl) (fun _ _ _ h => h) ?_ ?_; rotate_left; (intro w; go_simp; try with_reducible rfl); try go_frame)
  (refine takeD (i := 2) (some 44) (v := ?_) rfl (by rfl) (by rfl) (by kernel_rfl) (by rfl) (fun _ _ _ h => h) ?_ ?_; rotate_left; (intro w; go_simp; try with_reducible rfl); try go_frame)
  (refine takeD (i := 4) (some 46) (v := ?_) rfl (by rfl) (by rfl) (by kernel_rfl) (by rfl) (fun _ _ _ h => h) ?_ ?_; rotate_left; (intro w; go_simp; try with_reducible rfl); try go_frame)
  (refine takeD (i := 5) (some 47) (v := ?_) rfl (by rfl) (by rfl) (by kernel_rfl) (by rfl) (fun _ _ _ h => h) ?_ ?_; rotate_left; (intro w; go_simp; try with_reducible rfl); try go_frame)
  (refine takeS (i := 3) (some 45) (v := ?_) rfl (by rfl) (by rfl) (by kernel_rfl) (by rfl) (fun _ _ _ h => h) (by assumption) ?_ ?_; rotate_left; (intro w hSw; (try dsimp only at hSw); go_simp; try with_reducible rfl); try go_frame)
  refine wpAnyD_ready (rs := [6]) (by kernel_rfl) (by simp) ?_
  refine ReadyD.cons rfl (fun K hK => ?_) ?_
  go_simp
  (go_at_call 36; (with_reducible refine (HCL.out _ (still_drew wc)).mono ?_); rintro e w3 ⟨v3, rfl, hv3, hb3, hg3⟩)
  have hs3 : Still wc w3 := (still_drew wc).trans (Only.ofBelow hb3)
  go_wp2_with fail
  (refine hK.out _ _ ?_ (fun hNew => ?_); (focus (exact SS.out _ hs3)); clear hHeld; have hHeld := hNew; clear hNew)
  (clear hK K; try go_frame)
  have h3 := H2.out.still hs3
  have cv3 := Still.cell hs3 HCV.out
  have f3 := HFR.out _ hs3
  obtain ⟨a3, k3, hv3e⟩ := hv3.form'
  have F := Lib.hid (show WrPost w1 d (T.set i l) (.slice (some ⟨g, o, none⟩) T.length c) mb vs (.returned (.int .i64 0)) (w3.setCell ⟨g, o + i, none⟩ v3) ∧ DkAt (w3.setCell ⟨g, o + i, none⟩ v3) d (T.set i l) (.slice (some ⟨g, o, none⟩) T.length c) mb (vs.set i v3) from by
   have hwz := H2.out.lt
   have hgz := (H2.out.td g rfl).2.2
   have hp := h3.put rfl HI.out.1 hv3.reads (fun g' hg' => by
    have := hg3 g' hg'
    have hz : wc.drew.heap.size = wc.heap.size := rfl
    have e1 := hwz.1
    have e2 := hwz.2
    exact ⟨by omega, by omega, by omega, this.2⟩) (by rw [hv3e]; rfl)
   refine ⟨⟨rfl, _, hp, ?_, fun u hu => ?_⟩, hp⟩
   · exact ((HO.out.mono fun _ e => .inl e).trans (hs3.mono fun _ e => e.elim)).trans ((setCell_only w3 ⟨g, o + i, none⟩ v3).mono fun b e => .inr (by rw [show b = g from e]; rfl))
   · rcases List.mem_or_eq_of_mem_set hu with hu | rfl
     · exact .inl hu
     · refine .inr fun g' hg' => ?_
       have := hg3 g' hg'
       have hz : wc.drew.heap.size = wc.heap.size := rfl
       have := HO.out.size
       omega)
  clear h3 hv3 hb3 hg3 hs3 HFR
  subst hv3e
  (refine takeD (i := 7) (some 49) (v := ?_) rfl (by rfl) (by rfl) (by kernel_rfl) (by rfl) (fun _ _ _ h => h) ?_ ?_; rotate_left; (intro w; go_simp; try with_reducible rfl); try go_frame)
  refine wpAnyD_ready (rs := [8]) (by kernel_rfl) (by simp) ?_
  refine ReadyD.last rfl (by rfl) (fun K hK => ?_) ?_
  go_simp
  refine hK.out _ _ ?_
  (clear hK K; try go_frame)
  refine wpAnyD_done (by kernel_rfl) ?_ _
  rotate_left
  exact ReadyD.nil
  exact ReadyD.nil
  have HCU := Lib.hid (cut_any _ _ _ _ _ _ F.out.2)
  clear cv3 f3 hHeld
  go_wp2_with fail
  refine HCU.out.mono ?_
  rintro e w4 ⟨rfl, rfl⟩
  go_wp2_with fail
  go_ret
  exact F.out.1
end Go.Proofs.YtlcfoeikamkpmaaGreat

namespace Go.Proofs.YtlcfoeikamkpmaaGreat
open Go.RowKit Go.Wh Go.Maps

def SyPost (w : World) (d : Nat) (T : List (List Int)) (tv : Value) (mb : Nat) (vs : List Value) (e : Ending) (w' : World) : Prop :=
 e = .returned (.int .i64 0) ∧ DkAt w' d T tv mb vs ∧ Only (fun b => b = mb) w w'
set_option maxHeartbeats 1000000 in
set_option maxRecDepth 100000 in
theorem sync_any (w : World) (d : Nat) (T : List (List Int)) (tv : Value) (mb : Nat) (vs : List Value) (h : DkAt w d T tv mb vs) :
 Calls Tryz.prog 69 #[.pointer (some ⟨d, 0, none⟩)] w (SyPost w d T tv mb vs) := by
 have HCU := Lib.hid (cut_any w d T tv mb vs h)
 have H := Lib.hid h
 obtain ⟨V, hm⟩ := h.m
 have HMB := Lib.hid hm
 have c1 : w.cell? ⟨d, 1, none⟩ = some (.map (some mb)) := h.cells.cell 1
 have c2 : w.cell? ⟨d, 2, none⟩ = some (.bool false) := h.cells.cell 2
 clear h hm
 go_enter Tryz.func69, Tryz.ntmps69
 go_wp2_with fail
 refine HCU.out.mono ?_
 rintro e w1 ⟨rfl, rfl⟩
 clear HCU
 obtain ⟨w3, hrun, hk3, hg3, hs3⟩ := kmap.clear (ty := 0) HMB.out Tryz.underlying80
 have F := Lib.hid (show SyPost w1 d T tv mb vs (.returned (.int .i64 0)) w3 from ⟨rfl, H.out.map hk3 (Only.grown hg3 fun j e => (Option.some.inj e).symm), Only.grown hg3 fun j e => (Option.some.inj e).symm⟩)
 clear hk3 hg3 hs3
 go_wp2_with fail
 go_ret
 exact F.out

theorem info_bb : (Tryz.prog.info? 22).map (fun i => (i.zero, i.size, i.bytes)) = some (some (.slice none 0 0), 1, 24) := by kernel_rfl

theorem DkAt.push {w w' : World} {d mb : Nat} {T : List (List Int)} {tv tv' v : Value} {vs : List Value} {l : List Int} (h : DkAt w d T tv mb vs) (ho : Only (fun b => tv.ownBlock = some b) w w') (hv : Vec w' 1 tv' (T.length + 1) (vs ++ [v])) (hr : Reads w' 1 v 64 (bc l))
 (hvb : ∀ g, v.ownBlock = some g → w.heap.size ≤ g ∧ g < w'.heap.size) (htb : ∀ g, tv'.ownBlock = some g → (tv.ownBlock = some g ∨ w.heap.size ≤ g) ∧ g < w'.heap.size) (hne : ∀ g, v.ownBlock = some g → tv'.ownBlock ≠ some g) (h1 : v.oneCell' = true) :
 DkAt (w'.setCell ⟨d, 0, none⟩ tv') d (T ++ [l]) tv' mb (vs ++ [v]) := by
 have hs := setCell_only w' ⟨d, 0, none⟩ tv'
 have hz : (w'.setCell ⟨d, 0, none⟩ tv').heap.size = w'.heap.size := by simp [World.setCell]
 have hlt := h.lt
 have hsz := ho.size
 have hlen : vs.length = T.length := by have := h.t.len; omega
 have htd : ∀ g, tv'.ownBlock = some g → g ≠ d ∧ g ≠ mb := fun g hg => by
  rcases (htb g hg).1 with e | e
  · exact ⟨(h.td g e).1, (h.td g e).2.1⟩
  · exact ⟨by omega, by omega⟩
 refine ⟨?_, ?_, fun i l' hi => ?_, ?_, h.dm, fun g hg => ?_, fun u hu g hg => ?_, fun u hu => ?_⟩
 · exact ((h.cells.only ho fun e => (h.td d e).1 rfl).setCell 0 tv' : cellsAt _ d _)
 · rw [List.length_append]
   exact hv.only hs fun g hg e => (htd g hg).1 e
 · rcases Nat.lt_or_ge i T.length with hlt' | hge
   · rw [List.getElem?_append_left hlt'] at hi
     obtain ⟨u, hu, hr'⟩ := h.ins i l' hi
     have hui := h.ia u (List.mem_of_getElem? hu)
     refine ⟨u, by rw [List.getElem?_append_left (by omega)]; exact hu, Reads.only (Reads.only hr' ho fun g hg e => (hui g hg).2.2.1 e) hs fun g hg e => (hui g hg).1 e⟩
   · have hi' : i = T.length := by
      have := (List.getElem?_eq_some_iff.1 hi).1
      rw [List.length_append, List.length_singleton] at this
      omega
     subst hi'
     rw [List.getElem?_concat_length] at hi
     cases hi
     refine ⟨v, by rw [← hlen, List.getElem?_concat_length], Reads.only hr hs fun g hg e => ?_⟩
     have := hvb g hg
     have e' : g = d := e
     omega
 · obtain ⟨V, hm⟩ := h.m
   exact ⟨V, (hm.block (ho.block mb hm.lt fun e => (h.td mb e).2.1 rfl)).block (hs.block mb (by omega) fun e => h.dm (show mb = d from e).symm)⟩
 · have := htb g hg
   rw [hz]
   exact ⟨(htd g hg).1, (htd g hg).2, this.2⟩
 · rw [hz]
   rcases List.mem_append.1 hu with hu | hu
   · have hui := h.ia u hu g hg
     refine ⟨hui.1, hui.2.1, fun e => ?_, by omega⟩
     rcases (htb g e).1 with e' | e'
     · exact hui.2.2.1 e'
     · omega
   · rw [List.mem_singleton.1 hu] at hg
     have := hvb g hg
     exact ⟨by omega, by omega, hne g hg, this.2⟩
 · rcases List.mem_append.1 hu with hu | hu
   · exact h.one u hu
   · rw [List.mem_singleton.1 hu]
     exact h1

def NewRel (w : World) (d mb i : Nat) (wr : World) : Prop := ∃ tv vs, DkAt wr d (List.replicate i (List.replicate 64 0)) tv mb vs ∧ Still w wr ∧ (∀ g, tv.ownBlock = some g → w.heap.size ≤ g) ∧ ∀ u ∈ vs, ∀ g, u.ownBlock = some g → w.heap.size ≤ g

set_option maxHeartbeats 2000000 in
set_option maxRecDepth 100000 in
theorem new_any (w : World) (n : Nat) (hn : n ≤ 2000) :
 Calls Tryz.prog 10 #[.int .i64 n] w (fun e w' => ∃ d mb, e = .returned (.pointer (some ⟨d, 0, none⟩)) ∧ w.heap.size ≤ d ∧ w.heap.size ≤ mb ∧ NewRel w d mb n w') := by
 have HW := Lib.hid (fun t => show NewRel w (w.heap.size + 1) w.heap.size 0 ((w.alloc (.map #[] 0)).alloc (.cells #[.slice none 0 0, .map (some w.heap.size), .bool false, .pointer none] t)) from by
  have hz : (w.alloc (.map #[] 0)).heap.size = w.heap.size + 1 := by simp
  refine ⟨.slice none 0 0, [], ⟨?_, Vec.nil _ _, fun i l hi => by simp at hi, ⟨_, (kmap_made w _ _ _).block (by rw [alloc_kept _ _ (by rw [hz]; omega)])⟩, by omega, (fun g e => by cases e), (fun v hv => by cases hv), (fun v hv => by cases hv)⟩, ((Still.refl w).alloc _).alloc _, (fun g e => by cases e), (fun v hv => by cases hv)⟩
  have := cellsAt_new (w.alloc (.map #[] 0)) [.slice none 0 0, .map (some w.heap.size), .bool false, .pointer none] t
  rw [hz] at this
  exact this)
 have hmk : ∀ w : World, (Instr.makeMap 80 none).run Tryz.prog w = .ok (.map (some w.heap.size)) (w.alloc (.map #[] 0)) := fun w => by kernel_rfl
 have e1 : max (n : Int) 0 = n := by omega
 have e2 : min (n : Int) 2000 = n := by omega
 have HN := Lib.hid hn
 clear hn
 go_enter Tryz.func10, Tryz.ntmps10
 go_wp2_with fail
 have hW := HW.out 84
 clear HW
 generalize ((w.alloc (.map #[] 0)).alloc (.cells #[.slice none 0 0, .map (some w.heap.size), .bool false, .pointer none] 84)) = w0 at hW ⊢
 have HD := Lib.hid (show w.heap.size ≤ w.heap.size + 1 ∧ w.heap.size ≤ w.heap.size from ⟨by omega, by omega⟩)
 obtain ⟨d, hd⟩ : ∃ d, w.heap.size + 1 = d := ⟨_, rfl⟩
 obtain ⟨mb, hmb⟩ : ∃ mb, w.heap.size = mb := ⟨_, rfl⟩
 have HD := Lib.hid (show w.heap.size ≤ d ∧ w.heap.size ≤ mb from ⟨by omega, by omega⟩)
 rw [hd, hmb] at hW
 rw [hd]
 have HW := Lib.hid hW
 clear hW hd hmb hmk
 go_loopw [10] (fun s wr => ∃ i : Nat, s = .int .i64 i ∧ i ≤ n ∧ NewRel w d mb i wr) (fun s _ => n - (intOf s).toNat)
 case atStart => exact ⟨0, rfl, Nat.zero_le _, HW.out⟩
 case round =>
  clear HW
  obtain ⟨i, rfl, hin, tv, vs, h, hs, ht, hv⟩ := hrel
  by_cases hi : i < n
  · have b1 : decide ((i : Int) < (n : Int)) = true := by simp; omega
    have b2 : decide (i < n) = true := by simp; omega
    have u9 : IntKind.i64.wrap ((i : Int) + 1) = (i : Int) + 1 := IntWalk.i64_in _ (by have := HN.out; omega)
    obtain ⟨ta, tc, htv⟩ := h.form
    rw [List.length_replicate] at htv
    subst htv
    have H := Lib.hid h
    have HH := Lib.hid (And.intro hs (And.intro ht hv))
    have SS := Lib.hid (fun w' (hst : Only (fun _ => False) wr w') => show w'.cell? ⟨d, 0, none⟩ = some (.slice ta i tc) from Still.cell hst (H.out.cells.cell 0))
    have hmk := make64
    obtain ⟨i0, hi0, hz0, hz1, hz2⟩ := info_parts info_bb
    have HI := Lib.hid (And.intro hi0 (And.intro hz0 (And.intro hz1 hz2)))
    have HVT := Lib.hid (fun A B => show Vec ((wr.drew.alloc A).alloc B) 1 (.slice ta i tc) i vs from by
     have := h.t
     rw [List.length_replicate] at this
     exact (this.drew.alloc A).alloc B)
    have HRX := Lib.hid (fun A => show Reads ((wr.drew.alloc A).alloc (.cells #[.slice (some ⟨wr.heap.size, 0, none⟩) 64 64] 22)) 1 (.slice (some ⟨wr.heap.size + 1, 0, none⟩) 1 1) 1 [.slice (some ⟨wr.heap.size, 0, none⟩) 64 64] from by
     have := cellsAt_new (wr.drew.alloc A) [.slice (some ⟨wr.heap.size, 0, none⟩) 64 64] 22
     rw [show (wr.drew.alloc A).heap.size = wr.heap.size + 1 from by simp] at this
     exact this.reads rfl)
    have HFIN := Lib.hid (fun v' w' (hv' : Vec w' 1 v' (i + 1) (vs ++ [.slice (some ⟨wr.heap.size, 0, none⟩) 64 64])) (ho' : Only (fun k => (Value.slice ta i tc).ownBlock = some k) ((wr.drew.alloc (.cells (bc (List.replicate 64 0)).toArray 5)).alloc (.cells #[.slice (some ⟨wr.heap.size, 0, none⟩) 64 64] 22)) w')
     (hb' : v'.ownBlock = (Value.slice ta i tc).ownBlock ∨ ∃ g, v'.ownBlock = some g ∧ ((wr.drew.alloc (.cells (bc (List.replicate 64 0)).toArray 5)).alloc (.cells #[.slice (some ⟨wr.heap.size, 0, none⟩) 64 64] 22)).heap.size ≤ g ∧ g < w'.heap.size) =>
     show w'.cell? ⟨d, 0, none⟩ = some (.slice ta i tc) ∧ w'.frozen? ⟨d, 0, none⟩ = false ∧ NewRel w d mb (i + 1) (w'.setCell ⟨d, 0, none⟩ v') from by
     have hz : ((wr.drew.alloc (.cells (bc (List.replicate 64 0)).toArray 5)).alloc (.cells #[.slice (some ⟨wr.heap.size, 0, none⟩) 64 64] 22)).heap.size = wr.heap.size + 2 := by simp
     have hs0 : Still wr ((wr.drew.alloc (.cells (bc (List.replicate 64 0)).toArray 5)).alloc (.cells #[.slice (some ⟨wr.heap.size, 0, none⟩) 64 64] 22)) := ((still_drew wr).alloc _).alloc _
     have hO : Only (fun b => (Value.slice ta i tc).ownBlock = some b) wr w' := (hs0.mono fun _ e => e.elim).trans ho'
     have hdc := h.cells.only hO fun e => (h.td d e).1 rfl
     have hsz := ho'.size
     have hlt := h.lt
     have hw := hs.size
     rw [hz] at hsz hb'
     have hown : (Value.slice (some ⟨wr.heap.size, 0, none⟩) 64 64).ownBlock = some wr.heap.size := rfl
     refine ⟨hdc.cell 0, hdc.free 0, ?_⟩
     have hrd : Reads w' 1 (.slice (some ⟨wr.heap.size, 0, none⟩) 64 64) 64 (bc (List.replicate 64 0)) := by
      have h1 := cellsAt_new wr.drew (bc (List.replicate 64 0)) 5
      have h2 := (h1.alloc (.cells #[.slice (some ⟨wr.heap.size, 0, none⟩) 64 64] 22)).only ho' fun e => by
       have e2 := (h.td _ e).2.2
       have e3 : wr.drew.heap.size = wr.heap.size := rfl
       omega
      exact h2.reads (by rw [bc_length, List.length_replicate])
     have hp := h.push (l := List.replicate 64 0) hO (by rw [List.length_replicate]; exact hv') hrd (fun g hg => by rw [hown] at hg; injection hg with hg; omega) (fun g hg => by
      rcases hb' with e | ⟨g', e, e1, e2⟩
      · rw [e] at hg
        exact ⟨.inl hg, by have := (h.td g hg).2.2; omega⟩
      · rw [e] at hg
        injection hg with hg
        exact ⟨.inr (by omega), by omega⟩) (fun g hg e => by
      rw [hown] at hg
      injection hg with hg
      rcases hb' with e' | ⟨g', e', e1, e2⟩
      · rw [e'] at e
        have := (h.td g e).2.2
        omega
      · rw [e'] at e
        injection e with e
        omega) rfl
     refine ⟨v', _, by rw [List.replicate_succ']; exact hp, ?_, fun g hg => ?_, fun u hu g hg => ?_⟩
     · have h1 : Only (fun b => w.heap.size ≤ b) w w' := (hs.mono fun _ e => e.elim).trans (hO.mono fun b e => ht b e)
       have h2 := h1.setCell (p := ⟨d, 0, none⟩) (.inl HD.out.1) v'
       exact ⟨h2.os, h2.tape, h2.output, h2.size, fun b hb _ => h2.block b hb fun e => by omega⟩
     · rcases hb' with e | ⟨g', e, e1, e2⟩
       · rw [e] at hg
         exact ht g hg
       · rw [e] at hg
         injection hg with hg
         omega
     · rcases List.mem_append.1 hu with hu | hu
       · exact hv u hu g hg
       · rw [List.mem_singleton.1 hu, hown] at hg
         injection hg with hg
         omega)
    clear h hs ht hv hi0 hz0 hz1 hz2
    go_wp2_with fail
    refine wp_region_D_drew (D := (fun i => [0, 1, 2, 3, 8, 9, 10].contains i)) (S := (fun w' => w'.cell? ⟨d, 0, none⟩ = some (.slice ta i tc))) (by kernel_rfl) ?_ (fun hHeld => ?_)
    · exact SS.out _ (still_drew _)
    (refine takeD (i := 0) (some 12) (v := ?_) rfl (by rfl) (by rfl) (by kernel_rfl) (by rfl) (fun _ _ _ h => h) ?_ ?_; rotate_left; (intro w; go_simp; try with_reducible rfl); try go_frame)
    (refine takeD (i := 1) (some 13) (v := ?_) rfl (by rfl) (by rfl) (by kernel_rfl) (by rfl) (fun _ _ _ h => h) ?_ ?_; rotate_left; (intro w; go_simp; try with_reducible rfl); try go_frame)
    (refine takeD (i := 2) (some 14) (v := ?_) rfl (by rfl) (by rfl) (by kernel_rfl) (by rfl) (fun _ _ _ h => h) ?_ ?_; rotate_left; (intro w; go_simp; try with_reducible rfl); try go_frame)
    (refine takeD (i := 3) (some 15) (v := ?_) rfl (by rfl) (by rfl) (by kernel_rfl) (by rfl) (fun _ _ _ h => h) ?_ ?_; rotate_left; (intro w; go_simp; try with_reducible rfl); try go_frame)
    (refine takeS (i := 4) (some 16) (v := ?_) rfl (by rfl) (by rfl) (by kernel_rfl) (by rfl) (fun _ _ _ h => h) (by assumption) ?_ ?_; rotate_left; (intro w hSw; (try dsimp only at hSw); go_simp; try with_reducible rfl); try go_frame)
    refine wpAnyD_ready (rs := [5]) (by kernel_rfl) (by simp) ?_
    refine ReadyD.cons rfl (fun K hK => ?_) ?_
    go_simp
    (refine hK.out _ _ ?_ (fun hNew => ?_); (focus (exact SS.out _ (Only.alloc (still_drew _) _))); clear hHeld; have hHeld := hNew; clear hNew)
    (clear hK K; try go_frame)
    refine wpAnyD_ready (rs := [6]) (by kernel_rfl) (by simp) ?_
    refine ReadyD.cons rfl (fun K hK => ?_) ?_
    go_simp
    (refine hK.out _ _ ?_ (fun hNew => ?_); (focus (exact SS.out _ (Only.alloc (Only.alloc (still_drew _) _) _))); clear hHeld; have hHeld := hNew; clear hNew)
    (clear hK K; try go_frame)
    refine wpAnyD_ready (rs := [7]) (by kernel_rfl) (by simp) ?_
    refine ReadyD.cons rfl (fun K hK => ?_) ?_
    refine step_append_vec rfl _ _ 81 rfl 22 i0 _ 1 24 Tryz.underlying81 HI.out.1 HI.out.2.1 HI.out.2.2.1 HI.out.2.2.2 rfl (by decide) (.slice ta i tc) i vs (by simp [Act.eval]) (HVT.out _ _) (.slice (some ⟨wr.heap.size + 1, 0, none⟩) 1 1) 1 [.slice (some ⟨wr.heap.size, 0, none⟩) 64 64] (by simp [Act.eval]) (HRX.out _) (by intro u hu; simp at hu; rw [hu]; rfl) (by have := HN.out; simp only [maxLen]; omega) (by have := HN.out; omega) ?_
    intro v' w' hv' ho' hb'
    have hfin := HFIN.out v' w' hv' ho' hb'
    obtain ⟨k1, k2, k3⟩ := hfin
    obtain ⟨va, vc, rfl⟩ := hv'.form'
    have HK3 := Lib.hid k3
    (refine hK.out _ _ ?_ (fun hNew => ?_); (focus (exact k1)); clear hHeld; have hHeld := hNew; clear hNew)
    (clear hK K hv' ho' hb' k3; try go_frame)
    (refine takeD (i := 8) (some 20) (v := ?_) rfl (by rfl) (by rfl) (by kernel_rfl) (by rfl) (fun _ _ _ h => h) ?_ ?_; rotate_left; (intro w; go_simp; try with_reducible rfl); try go_frame)
    (refine takeD (i := 9) (some 21) (v := ?_) rfl (by rfl) (by rfl) (by kernel_rfl) (by rfl) (fun _ _ _ h => h) ?_ ?_; rotate_left; (intro w; go_simp; try with_reducible rfl); try go_frame)
    refine wpAnyD_ready (rs := [10]) (by kernel_rfl) (by simp) ?_
    refine ReadyD.last rfl (by rfl) (fun K hK => ?_) ?_
    go_simp
    refine hK.out _ _ ?_
    (clear hK K; try go_frame)
    refine wpAnyD_done (by kernel_rfl) ?_ _
    rotate_left
    exact ReadyD.nil
    exact ReadyD.nil
    exact ReadyD.nil
    exact ReadyD.nil
    go_wp2_with fail
    go_roundw
    case rel => exact ⟨i + 1, by go_num, by omega, HK3.out⟩
    case measure => simp [intOf]; omega
  · have hge : i = n := by omega
    subst hge
    have b1 : decide ((i : Int) < (i : Int)) = false := by simp
    have F := Lib.hid (show ∃ d' mb, (Ending.returned (.pointer (some ⟨d, 0, none⟩))) = .returned (.pointer (some ⟨d', 0, none⟩)) ∧ w.heap.size ≤ d' ∧ w.heap.size ≤ mb ∧ NewRel w d' mb i wr from ⟨d, mb, rfl, HD.out.1, HD.out.2, tv, vs, h, hs, ht, hv⟩)
    clear h hs ht hv
    go_wp2_with fail
    go_ret
    exact F.out
end Go.Proofs.YtlcfoeikamkpmaaGreat

namespace Go.Wh
open Go.RowKit

structure ChS where
 I : List Nat
 sz : Nat → Nat
 n : Nat → Nat
 cs : Nat → List Value
 use : Nat → Nat

structure ChJ (W : World) (X : ChS) (L : Nat → Bool) (xs : Nat → Value) (w : World) : Prop where
 still : Only (fun _ => False) W w
 vec : ∀ i ∈ X.I, L i = true → L (X.use i) = false → Vec w (X.sz i) (xs i) (X.n i) (X.cs i) ∧ ∀ g, (xs i).ownBlock = some g → W.heap.size ≤ g ∧ g < w.heap.size
 apart : ∀ i ∈ X.I, ∀ j ∈ X.I, i ≠ j → L i = true → L j = true → L (X.use i) = false → L (X.use j) = false → ∀ g, (xs i).ownBlock = some g → (xs j).ownBlock ≠ some g

section
variable {W w w' : World} {X : ChS} {L : Nat → Bool} {xs : Nat → Value} {i s : Nat} {v : Value}
theorem ChJ.start (hs : Only (fun _ => False) W w) (hl : ∀ j ∈ X.I, L j = false) : ChJ W X L xs w :=
 ⟨hs, (fun j hj h => by rw [hl j hj] at h; cases h), (fun j hj _ _ _ h => by rw [hl j hj] at h; cases h)⟩
theorem upN_at {α : Type} (f : Nat → α) (i : Nat) (v : α) : upN f i v i = v := if_pos rfl
theorem upN_other {α : Type} (f : Nat → α) {i j : Nat} (v : α) (h : j ≠ i) : upN f i v j = f j := if_neg h
theorem upN_false {L : Nat → Bool} {i j : Nat} (h : upN L i true j = false) : j ≠ i ∧ L j = false := by
 by_cases e : j = i
 · subst e
   rw [upN_at] at h
   cases h
 · rw [upN_other _ _ e] at h
   exact ⟨e, h⟩
theorem ChJ.build (h : ChJ W X L xs w) (ob : Obj) (hv : Vec (w.alloc ob) (X.sz i) v (X.n i) (X.cs i)) (hg : ∀ g, v.ownBlock = some g → g = w.heap.size) : ChJ W X (upN L i true) (upN xs i v) (w.alloc ob) := by
 have hz : (w.alloc ob).heap.size = w.heap.size + 1 := by simp
 have hsz := h.still.size
 refine ⟨h.still.alloc ob, fun j hj h1 h2 => ?_, fun j hj k hk hjk h1 h2 h3 h4 g hgj => ?_⟩
 · by_cases e : j = i
   · subst e
     rw [upN_at]
     exact ⟨hv, fun g e => by rw [hg g e]; omega⟩
   · rw [upN_other _ _ e] at h1 ⊢
     obtain ⟨a, b⟩ := h.vec j hj h1 (upN_false h2).2
     exact ⟨a.alloc ob, fun g hg => by have := b g hg; omega⟩
 · by_cases e : j = i
   · subst e
     rw [upN_at] at hgj
     have e2 : k ≠ j := Ne.symm hjk
     rw [upN_other _ _ e2] at h2 ⊢
     intro hgk
     have := (h.vec k hk h2 (upN_false h4).2).2 g hgk
     have := hg g hgj
     omega
   · rw [upN_other _ _ e] at h1 hgj
     by_cases e2 : k = i
     · subst e2
       rw [upN_at]
       intro hgk
       have := (h.vec j hj h1 (upN_false h3).2).2 g hgj
       have := hg g hgk
       omega
     · rw [upN_other _ _ e2] at h2 ⊢
       exact h.apart j hj k hk hjk h1 h2 (upN_false h3).2 (upN_false h4).2 g hgj
theorem ChJ.app (h : ChJ W X L xs w) (hs' : X.I.contains s = true) (hus : X.use s = i) (hls : L s = true) (hli : L i = false) (hv : Vec w' (X.sz i) v (X.n i) (X.cs i)) (ho : Only (fun k => (xs s).ownBlock = some k) w w')
 (hb : v.ownBlock = (xs s).ownBlock ∨ ∃ g, v.ownBlock = some g ∧ w.heap.size ≤ g ∧ g < w'.heap.size) : ChJ W X (upN L i true) (upN xs i v) w' := by
 have hs : s ∈ X.I := List.contains_iff_mem.1 hs'
 have hsv := h.vec s hs hls (by rw [hus]; exact hli)
 have hsz := h.still.size
 have hoz := ho.size
 have hvb : ∀ g, v.ownBlock = some g → W.heap.size ≤ g ∧ g < w'.heap.size := fun g hg => by
  rcases hb with e | ⟨g', e, h1, h2⟩
  · have := hsv.2 g (e.symm.trans hg)
    omega
  · rw [e] at hg
    injection hg with hg
    omega
 have hne : ∀ j, j ∈ X.I → j ≠ i → L j = true → upN L i true (X.use j) = false → j ≠ s ∧ L (X.use j) = false := fun j _ _ _ h2 => by
  obtain ⟨e1, e2⟩ := upN_false h2
  exact ⟨fun e => e1 (by rw [e]; exact hus), e2⟩
 have hap : ∀ j, j ∈ X.I → j ≠ i → L j = true → upN L i true (X.use j) = false → ∀ g, (xs j).ownBlock = some g → v.ownBlock ≠ some g := fun j hj hji h1 h2 g hg hvg => by
  obtain ⟨e1, e2⟩ := hne j hj hji h1 h2
  rcases hb with e | ⟨g', e, h3, h4⟩
  · exact h.apart j hj s hs e1 h1 hls e2 (by rw [hus]; exact hli) g hg (e.symm.trans hvg)
  · have := (h.vec j hj h1 e2).2 g hg
    rw [e] at hvg
    injection hvg with hvg
    omega
 refine ⟨h.still.andThen ho fun b hb e => by have := hsv.2 b e; omega, fun j hj h1 h2 => ?_, fun j hj k hk hjk h1 h2 h3 h4 g hgj => ?_⟩
 · by_cases e : j = i
   · subst e
     rw [upN_at]
     exact ⟨hv, hvb⟩
   · rw [upN_other _ _ e] at h1 ⊢
     obtain ⟨e1, e2⟩ := hne j hj e h1 h2
     obtain ⟨a, b⟩ := h.vec j hj h1 e2
     exact ⟨a.only ho fun g hg => h.apart s hs j hj (Ne.symm e1) hls h1 (by rw [hus]; exact hli) e2 |> fun q e3 => q g e3 hg, fun g hg => by have := b g hg; omega⟩
 · by_cases e : j = i
   · subst e
     rw [upN_at] at hgj
     have e2 : k ≠ j := Ne.symm hjk
     rw [upN_other _ _ e2] at h2 ⊢
     exact fun hgk => hap k hk e2 h2 h4 g hgk hgj
   · rw [upN_other _ _ e] at h1 hgj
     by_cases e2 : k = i
     · subst e2
       rw [upN_at]
       exact hap j hj e h1 h3 g hgj
     · rw [upN_other _ _ e2] at h2 ⊢
       exact h.apart j hj k hk hjk h1 h2 (hne j hj e h1 h3).2 (hne k hk e2 h2 h4).2 g hgj
end

section
variable {P : Program}
theorem Vec.part {size n : Nat} {v : Value} {xs : List Value} (t : TypeId) (ht : P.underlying t = some (.slice (P.elem t))) (hz : ∀ w, (sizeOf (P.elem t)).run P w = .ok size w) {w0 : World} (h0 : Vec w0 size v n xs) {lo hi : Nat} (h1 : lo ≤ hi) (h2 : hi ≤ n) :
 ∃ v', (∀ w, (Instr.slice t v (some (.int .i64 (lo : Int))) (some (.int .i64 (hi : Int))) none).run P w = .ok v' w) ∧ (lo = 0 → ∀ w, (Instr.slice t v none (some (.int .i64 (hi : Int))) none).run P w = .ok v' w) ∧ (hi = n → ∀ w, (Instr.slice t v (some (.int .i64 (lo : Int))) none none).run P w = .ok v' w) ∧
  ∀ w, Vec w size v n xs → Vec w size v' (hi - lo) ((xs.drop (lo * size)).take ((hi - lo) * size)) := by
 rcases h0 with ⟨rfl, rfl, rfl⟩ | ⟨g, o, cap, rfl, hv⟩
 · have e1 : hi = 0 := by omega
   have e2 : lo = 0 := by omega
   subst e1 e2
   refine ⟨.slice none 0 0, fun w => ?_, fun _ w => ?_, fun _ w => ?_, fun w _ => by simpa using Vec.nil w size⟩
   · rw [run_slice_lh w t none 0 0 ht .i64 .i64 _ _ (by omega) (by omega) (by omega), hz]
     simp [Result.andThen, sliced]
   · rw [run_slice_h w t none 0 0 ht .i64 _ (by omega) (by omega), hz]
     simp [Result.andThen, sliced]
   · rw [run_slice_l w t none 0 0 ht .i64 _ (by omega) (by omega), hz]
     simp [Result.andThen, sliced]
 · have hle := hv.le
   refine ⟨sliced (some ⟨g, o, none⟩) lo hi cap size, fun w => ?_, fun e w => ?_, fun e w => ?_, fun w hw => ?_⟩
   · rw [run_slice_lh w t _ _ _ ht .i64 .i64 _ _ (by omega) (by omega) (by omega), hz]
     rfl
   · subst e
     rw [run_slice_h w t _ _ _ ht .i64 _ (by omega) (by omega), hz]
     rfl
   · subst e
     rw [run_slice_l w t _ _ _ ht .i64 _ (by omega) (by omega), hz]
     rfl
   · have := hw.at.cut lo hi cap h1 h2 (by omega) (Nat.le_refl _)
     have e : sliced (some ⟨g, o, none⟩) lo hi cap size = .slice (some (cutAddr size g o lo cap)) (hi - lo) (cap - lo) := by
      unfold sliced cutAddr
      split <;> simp
     rw [e]
     exact this
end

section
variable {P : Program} {ops : Array Oper} {Q : Exit → Act → World → Prop} {W : World} {X : ChS} {B : List (Nat × Nat)} {dep : Nat → List Nat} {a : Act} {i s tt : Nat} {o : Oper}
theorem ChJ.stepApp (s : Nat) (ho : ops[i]? = some o) (hgd : o.guard = none) (ds dx : Operand) (t : TypeId) (hop : o.op = Op.call { callee := Callee.builtin Builtin.append, args := #[ds, dx], argTypes := #[t, t] }) (hdst : o.dst = some tt)
 (e : TypeId) (inf : TypeInfo) (z : Value) (size bytes : Nat) (h1 : P.underlying t = some (.slice e)) (h2 : P.info? e = some inf) (h3 : inf.zero = some z) (h4 : inf.size = size) (h5 : inf.bytes = bytes) (h6 : z.cells.size = size) (h7 : 0 < size)
 (m : Nat) (news : List Value) (hs : X.I.contains s = true) (hus : X.use s = i) (hdep : s ∈ dep i) (hsz : X.sz s = size) (hszi : X.sz i = size) (hn : X.n i = X.n s + m) (hc : X.cs i = X.cs s ++ news) (h1c : ∀ u ∈ news, u.oneCell' = true)
 (b1 : X.n s + m ≤ maxLen) (b2 : (X.n s + m) * bytes ≤ 140737488355328) (hev : ∀ xs, (fillA B xs a).eval ds = xs s)
 (hx : ∀ L xs w, (∀ j ∈ dep i, L j = true) → L i = false → ChJ W X L xs w → ∃ vx, (fillA B xs a).eval dx = vx ∧ Reads w size vx m news) : StepM P ops Q (ChJ W X) B dep a i tt := by
 refine StepM.of ho fun L xs w hd hl hJ K hK => ?_
 obtain ⟨vx, e1, e2⟩ := hx L xs w hd hl hJ
 have hv := (hJ.vec s (List.contains_iff_mem.1 hs) (hd s hdep) (by rw [hus]; exact hl)).1
 refine step_append_vec hgd ds dx t hop e inf z size bytes h1 h2 h3 h4 h5 h6 h7 (xs s) (X.n s) (X.cs s) (hev xs) (hsz ▸ hv) vx m news e1 e2 h1c b1 b2 ?_
 intro v' w' hv' ho' hb'
 exact hK _ _ (hJ.app hs hus (hd s hdep) hl (by rw [hszi, hn, hc]; exact hv') ho' hb') _ (by rw [hdst])
end
def chain3 (b1 a1 b2 a2 a3 : Nat) (sz p m : Nat) (c1 c2 c3 : List Value) : ChS :=
 { I := [b1, a1, b2, a2, a3], sz := fun _ => sz, n := fun i => if i = a1 then p else if i = b2 then 1 else if i = a2 then p + 1 else if i = a3 then p + 1 + m else 0,
   cs := fun i => if i = a1 then c1 else if i = b2 then c2 else if i = a2 then c1 ++ c2 else if i = a3 then c1 ++ c2 ++ c3 else [], use := fun i => if i = b1 then a1 else if i = a1 then a2 else if i = b2 then a2 else if i = a2 then a3 else 999 }
def chain2 (b1 a1 a2 : Nat) (sz p m : Nat) (c1 c2 : List Value) : ChS :=
 { I := [b1, a1, a2], sz := fun _ => sz, n := fun i => if i = a1 then p else if i = a2 then p + m else 0,
   cs := fun i => if i = a1 then c1 else if i = a2 then c1 ++ c2 else [], use := fun i => if i = b1 then a1 else if i = a1 then a2 else 999 }
end Go.Wh

namespace Go.Proofs.YtlcfoeikamkpmaaGreat
open Go.RowKit Go.Wh Go.Maps

def Sl (w : World) (Q : Nat → Prop) (sz : Nat) (dv : Value) (m : Nat) (xs : List Value) : Prop :=
 xs.length = m * sz ∧ (((dv = .slice none 0 0 ∨ ∃ a c, dv = .slice (some a) 0 c) ∧ m = 0) ∨ ∃ g o c, dv = .slice (some ⟨g, o, none⟩) m c ∧ (0 < m → Q g ∧ g < w.heap.size) ∧ ∀ j u, xs[j]? = some u → w.cell? ⟨g, o + j, none⟩ = some u)
section
variable {w w' : World} {Q X : Nat → Prop} {sz m : Nat} {dv : Value} {xs : List Value}
theorem Sl.only (h : Sl w Q sz dv m xs) (ho : Only X w w') (hq : ∀ g, Q g → ¬ X g) : Sl w' Q sz dv m xs := by
 refine ⟨h.1, h.2.imp id ?_⟩
 rintro ⟨g, o, c, rfl, h1, h2⟩
 refine ⟨g, o, c, rfl, fun hm => ⟨(h1 hm).1, Nat.lt_of_lt_of_le (h1 hm).2 ho.size⟩, fun j u hj => ?_⟩
 have hm : 0 < m := by
  rcases Nat.eq_zero_or_pos m with e | e
  · have := h.1
    rw [e, Nat.zero_mul, List.length_eq_zero_iff] at this
    rw [this] at hj
    cases hj
  · exact e
 exact (ho.cell (p := ⟨g, o + j, none⟩) (h1 hm).2 (hq g (h1 hm).1)).trans (h2 j u hj)
theorem Sl.still (h : Sl w Q sz dv m xs) (hs : Still w w') : Sl w' Q sz dv m xs := h.only hs fun _ _ e => e
theorem Sl.mono {R : Nat → Prop} (h : Sl w Q sz dv m xs) (hr : ∀ g, Q g → R g) : Sl w R sz dv m xs := by
 refine ⟨h.1, h.2.imp id ?_⟩
 rintro ⟨g, o, c, rfl, h1, h2⟩
 exact ⟨g, o, c, rfl, fun hm => ⟨hr g (h1 hm).1, (h1 hm).2⟩, h2⟩
theorem Sl.reads (h : Sl w Q sz dv m xs) : Reads w sz dv m xs := by
 refine ⟨h.1, ?_⟩
 rcases h.2 with ⟨h1 | ⟨a, c, rfl⟩, h2⟩ | h1
 · exact .inl ⟨h1, h2⟩
 · subst h2
   have h0 := h.1
   rw [Nat.zero_mul, List.length_eq_zero_iff] at h0
   exact .inr ⟨a, c, rfl, fun j u hj => by rw [h0] at hj; cases hj⟩
 right
 obtain ⟨g, o, c, rfl, h1, h2⟩ := h1
 exact ⟨_, _, rfl, fun j u hj => by rw [Addr.add_lit]; exact h2 j u hj⟩
theorem Sl.form (h : Sl w Q sz dv m xs) : ∃ a c, dv = .slice a m c := by
 rcases h.2 with ⟨rfl | ⟨a, c, rfl⟩, rfl⟩ | ⟨g, o, c, rfl, _⟩
 · exact ⟨_, _, rfl⟩
 · exact ⟨_, _, rfl⟩
 · exact ⟨_, _, rfl⟩
theorem Sl.pos (h : Sl w Q sz dv m xs) (hm : 0 < m) : ∃ g o c, dv = .slice (some ⟨g, o, none⟩) m c ∧ Q g ∧ g < w.heap.size ∧ ∀ j u, xs[j]? = some u → w.cell? ⟨g, o + j, none⟩ = some u := by
 rcases h.2 with ⟨_, rfl⟩ | ⟨g, o, c, e, h1, h2⟩
 · omega
 · exact ⟨g, o, c, e, (h1 hm).1, (h1 hm).2, h2⟩
theorem Vec.sl (h : Vec w sz dv m xs) (hq : ∀ g, dv.ownBlock = some g → Q g ∧ g < w.heap.size) : Sl w Q sz dv m xs := by
 refine ⟨h.len, ?_⟩
 rcases h with ⟨rfl, rfl, _⟩ | ⟨g, o, c, rfl, h⟩
 · exact .inl ⟨.inl rfl, rfl⟩
 · refine .inr ⟨g, o, c, rfl, fun hm => hq g rfl, fun j u hj => ?_⟩
   rw [h.cells j (by rw [← h.len]; exact (List.getElem?_eq_some_iff.1 hj).1)]
   exact hj
theorem Vec.sl0 (h : Vec w sz dv m xs) (hz : 0 < sz) : Sl w (fun _ => True) sz dv m xs := by
 refine ⟨h.len, ?_⟩
 rcases h with ⟨rfl, rfl, _⟩ | ⟨g, o, c, rfl, h⟩
 · exact .inl ⟨.inl rfl, rfl⟩
 · refine .inr ⟨g, o, c, rfl, fun hm => ⟨trivial, h.lt (Nat.mul_pos (by have := h.le; omega) hz)⟩, fun j u hj => ?_⟩
   rw [h.cells j (by rw [← h.len]; exact (List.getElem?_eq_some_iff.1 hj).1)]
   exact hj
theorem Sl.low (h : Sl w Q sz dv m xs) : Sl w (fun g => Q g ∧ g < w.heap.size) sz dv m xs := by
 refine ⟨h.1, h.2.imp id ?_⟩
 rintro ⟨g, o, c, rfl, h1, h2⟩
 exact ⟨g, o, c, rfl, fun hm => ⟨h1 hm, (h1 hm).2⟩, h2⟩
theorem Sl.nil : Sl w Q sz (.slice none 0 0) 0 [] := ⟨by simp, .inl ⟨.inl rfl, rfl⟩⟩
theorem Sl.empty {a : Option Addr} {c : Nat} (h : a = none → c = 0) : Sl w Q sz (.slice a 0 c) 0 [] := by
 refine ⟨by simp, .inl ⟨?_, rfl⟩⟩
 cases a with
 | none => rw [h rfl]; exact .inl rfl
 | some a => exact .inr ⟨a, c, rfl⟩
end

def Cap (m : Nat) (dv : Value) : Prop := ∃ a c, dv = .slice a m c ∧ m ≤ c
theorem Vec.capOf {w : World} {sz m : Nat} {dv : Value} {xs : List Value} (h : Vec w sz dv m xs) : Cap m dv := by
 rcases h with ⟨rfl, rfl, _⟩ | ⟨g, o, c, rfl, h⟩
 · exact ⟨_, _, rfl, Nat.le_refl _⟩
 · exact ⟨_, _, rfl, h.le⟩
theorem Sl.part {P : Program} {size m : Nat} {v : Value} {xs : List Value} (t : TypeId) (ht : P.underlying t = some (.slice (P.elem t))) (hz : ∀ w, (sizeOf (P.elem t)).run P w = .ok size w) {w0 : World} {Q0 : Nat → Prop} (h0 : Sl w0 Q0 size v m xs) (hc : Cap m v) {lo hi : Nat} (h1 : lo ≤ hi) (h2 : hi ≤ m) :
 ∃ v', (∀ w, (Instr.slice t v (some (.int .i64 (lo : Int))) (some (.int .i64 (hi : Int))) none).run P w = .ok v' w) ∧ (lo = 0 → ∀ w, (Instr.slice t v none (some (.int .i64 (hi : Int))) none).run P w = .ok v' w) ∧ (hi = m → ∀ w, (Instr.slice t v (some (.int .i64 (lo : Int))) none none).run P w = .ok v' w) ∧ Cap (hi - lo) v' ∧
  ∀ w Q, Sl w Q size v m xs → Sl w Q size v' (hi - lo) ((xs.drop (lo * size)).take ((hi - lo) * size)) := by
 obtain ⟨hl, h0⟩ := h0
 have e1 : lo * size + (hi - lo) * size = hi * size := by rw [← Nat.add_mul]; congr 1; omega
 have e2 := Nat.mul_le_mul_right size h2
 have hlen : ((xs.drop (lo * size)).take ((hi - lo) * size)).length = (hi - lo) * size := by rw [List.length_take, List.length_drop]; omega
 rcases h0 with ⟨rfl | ⟨a, c, rfl⟩, rfl⟩ | ⟨g, o, c, rfl, -, -⟩
 rotate_left
 · have n1 : hi = 0 := by omega
   have n2 : lo = 0 := by omega
   subst n1 n2
   have e : ∃ a' c', sliced (some a) 0 0 c size = .slice (some a') 0 c' := by
    unfold sliced
    split <;> exact ⟨_, _, rfl⟩
   obtain ⟨a', c', e⟩ := e
   refine ⟨sliced (some a) 0 0 c size, fun w => ?_, fun _ w => ?_, fun _ w => ?_, ⟨_, _, e, by simp⟩, fun w Q _ => ⟨hlen, .inl ⟨.inr ⟨a', c', e⟩, by simp⟩⟩⟩
   · rw [run_slice_lh w t _ _ _ ht .i64 .i64 _ _ (by omega) (by omega) (by omega), hz]
     rfl
   · rw [run_slice_h w t _ _ _ ht .i64 _ (by omega) (by omega), hz]
     rfl
   · rw [run_slice_l w t _ _ _ ht .i64 _ (by omega) (by omega), hz]
     rfl
 rotate_left
 · have n1 : hi = 0 := by omega
   have n2 : lo = 0 := by omega
   subst n1 n2
   refine ⟨.slice none 0 0, fun w => ?_, fun _ w => ?_, fun _ w => ?_, ⟨_, _, rfl, Nat.le_refl _⟩, fun w Q _ => ⟨hlen, .inl ⟨.inl rfl, rfl⟩⟩⟩
   · rw [run_slice_lh w t none 0 0 ht .i64 .i64 _ _ (by omega) (by omega) (by omega), hz]
     simp [Result.andThen, sliced]
   · rw [run_slice_h w t none 0 0 ht .i64 _ (by omega) (by omega), hz]
     simp [Result.andThen, sliced]
   · rw [run_slice_l w t none 0 0 ht .i64 _ (by omega) (by omega), hz]
     simp [Result.andThen, sliced]
 · have hle : m ≤ c := by
    obtain ⟨a, c', e, h⟩ := hc
    injection e with _ _ e
    omega
   have e : sliced (some ⟨g, o, none⟩) lo hi c size = .slice (some (cutAddr size g o lo c)) (hi - lo) (c - lo) := by
    unfold sliced cutAddr
    split <;> simp
   refine ⟨sliced (some ⟨g, o, none⟩) lo hi c size, fun w => ?_, fun e w => ?_, fun e w => ?_, ⟨_, _, e, by omega⟩, fun w Q hw => ⟨hlen, ?_⟩⟩
   · rw [run_slice_lh w t _ _ _ ht .i64 .i64 _ _ (by omega) (by omega) (by omega), hz]
     rfl
   · subst e
     rw [run_slice_h w t _ _ _ ht .i64 _ (by omega) (by omega), hz]
     rfl
   · subst e
     rw [run_slice_l w t _ _ _ ht .i64 _ (by omega) (by omega), hz]
     rfl
   · by_cases hm : c = lo
     · refine .inr ⟨g, o, c - lo, by rw [e]; unfold cutAddr; rw [if_pos hm], fun h => by omega, fun j u hj => ?_⟩
       have := (List.getElem?_eq_some_iff.1 hj).1
       rw [hlen, show hi - lo = 0 by omega, Nat.zero_mul] at this
       omega
     · refine .inr ⟨g, o + lo * size, c - lo, by rw [e, cutAddr_eq _ _ _ _ _ hm], fun h => ?_, fun j u hj => ?_⟩
       · obtain ⟨g', o', c', e', h3, h4, _⟩ := hw.pos (by omega)
         injection e' with e' _ _
         injection e' with e'
         injection e' with e' _ _
         rw [e']
         exact ⟨h3, h4⟩
       · have hj' := (List.getElem?_eq_some_iff.1 hj).1
         rw [hlen] at hj'
         rw [List.getElem?_take, if_pos hj', List.getElem?_drop] at hj
         have hmp : 0 < m := by
          rcases Nat.eq_zero_or_pos m with e0 | e0
          · rw [show hi - lo = 0 by omega, Nat.zero_mul] at hj'
            omega
          · exact e0
         obtain ⟨g', o', c', e', _, _, h5⟩ := hw.pos hmp
         injection e' with e' _ _
         injection e' with e'
         injection e' with e1' e2' _
         rw [e1', e2', Nat.add_assoc]
         exact h5 _ _ hj

end Go.Proofs.YtlcfoeikamkpmaaGreat
