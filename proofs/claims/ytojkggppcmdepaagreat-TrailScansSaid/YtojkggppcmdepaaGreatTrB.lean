/- The disk: write, sync, a new one. Conditions: it lies in memory, alive, nothing to be cut. -/
import Derived.Test.YtojkggppcmdepaaGreatTrA
import Derived.Test.YtojkggppcmdepaaGreatAnyD
import Derived.Test.YtojkggppcmdepaaGreatAnyM
import Derived.Laws.MakeOwn
import Derived.Deep.DeepCutAuto
import Derived.Deep.CutBlock
namespace Go.Proofs.YtojkggppcmdepaaGreat
open Go.RowKit Go.Wh Go.Maps
open Go.ChangeMaps (setBlock heap_setBlock_same heap_setBlock_other)

theorem setCell_only (w : World) (p : Addr) (u : Value) : Only (fun k => k = p.block) w (w.setCell p u) := (Only.refl (fun k => k = p.block) w).setCell (.inl rfl) u

theorem make64 (w : World) : (Instr.makeSlice 23 (.int .i64 64) (.int .i64 64)).run Tryz.prog w = .ok (.slice (some ⟨w.heap.size, 0, none⟩) 64 64) (w.alloc (.cells (bc (List.replicate 64 0)).toArray 5)) := by
  obtain ⟨i, hi, hz0, hz1, hz2⟩ := info_parts info_b
  have h := run_makeSlice (P := Tryz.prog) (w := w) 23 5 i (.int .u8 0) Tryz.underlying23 hi hz0 .i64 .i64 64 64 (by omega) (by omega) (by rw [hz1]; decide) (by rw [hz2]; decide) (by decide)
  rw [hz1] at h
  have e : madeCells (Value.int .u8 0).cells (Int.toNat 64 * 1) = (bc (List.replicate 64 0)).toArray := by kernel_rfl
  rw [e] at h
  exact h

theorem kmap.clear {P : Program} {k : TypeId} {α : Type} {E : α → Value} {w : World} {b : Nat} {V : α → Option Value} {t e ty : TypeId} (h : kmap w P k E b V) (ht : P.underlying t = some (.map k e)) :
    ∃ w', (Builtin.clear_ #[t] ty #[.map (some b)]).run P w = .ok (.tuple #[]) w' ∧ kmap w' P k E b (fun _ => none) ∧ w.grownBy w' (some b) ∧ w'.heap.size = w.heap.size := by
  obtain ⟨es, clock, hb, -⟩ := h
  refine ⟨setBlock w b (.map #[] clock), ?_, ⟨#[], clock, heap_setBlock_same hb _, MapKept.stamped_empty _, by simp, by simp, by simp⟩, ⟨rfl, rfl, rfl, by simp [setBlock], fun i _ hi => heap_setBlock_other hb _ (fun e => hi (by rw [e]))⟩, by simp [setBlock]⟩
  simp [Builtin.clear_, run_underlying ht, MapKept.run_getObj_map hb, MapKept.run_setObj_map _ hb, Result.andThen, setBlock]
theorem wpList_clear_k {P : Program} {k : TypeId} {α : Type} {E : α → Value} {w : World} {b : Nat} {V : α → Option Value} {ops : Array Oper} {rest : List Oper} {o : Oper} {a : Act} {Q : Exit → Act → World → Prop} (hg : o.guard = none) (m : Operand) (t : TypeId)
    (hop : o.op = Op.call { callee := Callee.builtin Builtin.clear, args := #[m], argTypes := #[t] }) (e : TypeId) (ht : P.underlying t = some (.map k e)) (hm : a.eval m = .map (some b)) (h : kmap w P k E b V)
    (hK : ∀ w', kmap w' P k E b (fun _ => none) → w.grownBy w' (some b) → w'.heap.size = w.heap.size → wpList P ops Q rest (a.put o.dst (.tuple #[])) w') : wpList P ops Q (o :: rest) a w := by
  refine wpList_plain hg fun K' hK' => ?_
  obtain ⟨w', hrun, r1, r2, r3⟩ := kmap.clear (ty := o.type) h ht
  unfold Oper.wp
  simp [execOp, hop, resolve, invoke, builtin, hm, hrun, Result.andThen]
  exact hK' _ _ (hK w' r1 r2 r3)

section
variable {w w' : World} {d mb : Nat} {T : List (List Int)} {tv : Value} {vs : List Value}
/-- The map turned. -/
theorem DkAt.map (h : DkAt w d T tv mb vs) {V : Int → Option Value} (hk : kmap w' Tryz.prog 3 (fun z : Int => .int .i64 z) mb V) (ho : Only (fun b => b = mb) w w') : DkAt w' d T tv mb vs := by
  refine ⟨h.cells.only ho h.dm, h.t.only ho (fun g hg e => (h.td g hg).2.1 e), fun i l hi => ?_, ⟨V, hk⟩, h.dm, fun g hg => ?_, fun v hv g hg => ?_, h.one⟩
  · obtain ⟨v, hv, hr⟩ := h.ins i l hi
    exact ⟨v, hv, Reads.only hr ho fun g hg e => (h.ia v (List.mem_of_getElem? hv) g hg).2.1 e⟩
  · have := h.td g hg
    exact ⟨this.1, this.2.1, Nat.lt_of_lt_of_le this.2.2 ho.size⟩
  · have := h.ia v hv g hg
    exact ⟨this.1, this.2.1, this.2.2.1, Nat.lt_of_lt_of_le this.2.2.2 ho.size⟩
/-- A tile turned. -/
theorem DkAt.put {g o c i : Nat} {l : List Int} {v : Value} (h : DkAt w d T tv mb vs) (htv : tv = .slice (some ⟨g, o, none⟩) T.length c) (hi : i < T.length) (hv : Reads w 1 v 64 (bc l)) (hf : ∀ g', v.ownBlock = some g' → g' ≠ d ∧ g' ≠ mb ∧ g' ≠ g ∧ g' < w.heap.size) (h1 : v.oneCell' = true) :
    DkAt (w.setCell ⟨g, o + i, none⟩ v) d (T.set i l) tv mb (vs.set i v) := by
  subst htv
  have ho := setCell_only w ⟨g, o + i, none⟩ v
  have hgd := h.td g rfl
  have hz : (w.setCell ⟨g, o + i, none⟩ v).heap.size = w.heap.size := by simp [World.setCell]
  have hlen : vs.length = T.length := by have := h.t.len; omega
  refine ⟨h.cells.only ho (fun e => hgd.1 e.symm), ?_, fun j l' hj => ?_, ?_, h.dm, fun g' hg' => ?_, fun u hu g' hg' => ?_, fun u hu => ?_⟩
  · rw [List.length_set]
    obtain ⟨g', o', c', he, ht⟩ := h.t.form (by omega)
    injection he with he _ hec
    injection he with he
    injection he with hg ho'
    subst hg ho' hec
    exact .inr ⟨_, _, _, rfl, ht.set i (by omega) v⟩
  · by_cases e : i = j
    · subst e
      rw [List.getElem?_set_self hi] at hj
      cases hj
      refine ⟨v, List.getElem?_set_self (by omega), Reads.only hv ho fun g' hg' e => (hf g' hg').2.2.1 e⟩
    · rw [List.getElem?_set_ne e] at hj
      obtain ⟨u, hu, hr⟩ := h.ins j l' hj
      refine ⟨u, by rw [List.getElem?_set_ne e]; exact hu, Reads.only hr ho fun g' hg' e => (h.ia u (List.mem_of_getElem? hu) g' hg').2.2.1 (by rw [show g' = g from e]; rfl)⟩
  · obtain ⟨V, hm⟩ := h.m
    exact ⟨V, hm.block (ho.block mb hm.lt fun e => hgd.2.1 (show mb = g from e).symm)⟩
  · have := h.td g' hg'
    rw [hz]
    exact this
  · rw [hz]
    rcases List.mem_or_eq_of_mem_set hu with hu | rfl
    · exact h.ia u hu g' hg'
    · have := hf g' hg'
      exact ⟨this.1, this.2.1, fun e => this.2.2.1 (Option.some.inj e).symm, this.2.2.2⟩
  · rcases List.mem_or_eq_of_mem_set hu with hu | rfl
    · exact h.one u hu
    · exact h1
end

/-- What a write leaves. -/
def WrPost (w : World) (d : Nat) (T' : List (List Int)) (tv : Value) (mb : Nat) (vs : List Value) (e : Ending) (w' : World) : Prop :=
  e = .returned (.int .i64 0) ∧ ∃ vs', DkAt w' d T' tv mb vs' ∧ Only (fun b => b = mb ∨ tv.ownBlock = some b) w w' ∧ ∀ u ∈ vs', u ∈ vs ∨ ∀ g, u.ownBlock = some g → w.heap.size ≤ g

theorem intK (i : Nat) (hi : i ≤ 100000) : keyOf Tryz.prog 3 (.int .i64 (i : Int)) = some (.int .i64 (i : Int)) := keyOf_int_mk Tryz.underlying3 (by
  have e1 : IntKind.i64.min = -9223372036854775808 := by decide
  have e2 : IntKind.i64.max = 9223372036854775807 := by decide
  simp only [Lit.wf, e1, e2, Bool.and_eq_true, decide_eq_true_eq]
  omega)

set_option maxHeartbeats 2000000 in
set_option maxRecDepth 100000 in
theorem write_any (w : World) (d : Nat) (T : List (List Int)) (tv : Value) (mb : Nat) (vs : List Value) (i : Nat) (l : List Int) (bv : Value) (h : DkAt w d T tv mb vs) (hi : i < T.length) (hT : T.length ≤ 2000) (hb : Reads w 1 bv 64 (bc l)) (hbm : ∀ g, bv.ownBlock = some g → g ≠ mb) :
    Calls Tryz.prog 25 #[.pointer (some ⟨d, 0, none⟩), .int .i64 i, bv] w (WrPost w d (T.set i l) tv mb vs) := by
  have HM := Lib.hid (may_any w d T tv mb vs i h hi)
  have H := Lib.hid h
  obtain ⟨ba, bcap, rfl⟩ := Reads.form hb
  have HB := Lib.hid (And.intro hb hbm)
  obtain ⟨g, o, c, htv, ht⟩ := h.t.form (by omega)
  have HI := Lib.hid (And.intro hi hT)
  subst htv
  obtain ⟨V, hm⟩ := h.m
  have HMB := Lib.hid hm
  have c0 : w.cell? ⟨d, 0, none⟩ = some (.slice (some ⟨g, o, none⟩) T.length c) := h.cells.cell 0
  have c1 : w.cell? ⟨d, 1, none⟩ = some (.map (some mb)) := h.cells.cell 1
  obtain ⟨v, hv⟩ : ∃ v, vs[i]? = some v := ⟨_, List.getElem?_eq_getElem (by have := ht.len; omega)⟩
  have cv : w.cell? ⟨g, o + i, none⟩ = some v := by rw [ht.cells i (by omega)]; exact hv
  have b1 : (0 : Int) ≤ (i : Int) := by omega
  have b2 : (i : Int) < (T.length : Int) := by omega
  have hl : (Instr.lookup 81 (.map (some mb)) (.int .i64 (i : Int)) true).run Tryz.prog w = .ok (.tuple #[(V (i : Int)).getD (.slice none 0 0), .bool (V (i : Int)).isSome]) w :=
    hm.lookup (int_keyed Tryz.underlying3) Tryz.underlying81 (intK i (by omega)) (z := .slice none 0 0) (by kernel_rfl) true
  have HG := Lib.hid (show g ≠ mb ∧ g ≠ d ∧ d ≠ mb from ⟨(h.td g rfl).2.1, (h.td g rfl).1, h.dm⟩)
  have HVI := Lib.hid hv
  clear h hb hbm ht hm hv hi hT
  go_enter Tryz.func25, Tryz.ntmps25
  go_wp2_with fail
  refine HM.out.mono ?_
  rintro e w1 ⟨rfl, rfl⟩
  go_upto_if 29 with fail
  go_cut [8, 9] (fun _ _ wc => ∃ V', Only (fun b => b = mb) w1 wc ∧ kmap wc Tryz.prog 3 (fun z : Int => .int .i64 z) mb V')
  case first =>
    cases hov : V (i : Int) with
    | some u =>
      clear hl hov
      go_wp2_with fail
      go_meet
      case rel => exact ⟨V, Only.refl _ _, HMB.out⟩
    | none =>
      clear hl hov
      go_wp2_with fail
      go_still_tail 12, (by kernel_rfl)
      change wpList _ _ _ _ _ w1.drew
      refine wpList_mapUpdate_k rfl _ _ _ _ rfl 23 (int_keyed Tryz.underlying3) (fun x y h => by injection h) Tryz.underlying81 rfl (HMB.out.block rfl : kmap w1.drew _ _ _ _ _) (i : Int) rfl ⟨_, intK i (by have := HI.out; omega)⟩ _ rfl ?_
      intro w3 hk3 hg3 hs3
      have F := Lib.hid (show ∃ V', Only (fun b => b = mb) w1 w3 ∧ kmap w3 Tryz.prog 3 (fun z : Int => .int .i64 z) mb V' from ⟨_, Only.undrew (Only.grown hg3 fun j e => (Option.some.inj e).symm), hk3⟩)
      clear hk3 hg3 hs3
      go_wp2_with fail
      go_meet
      case rel => exact F.out
  case rest =>
    obtain ⟨V', ho, hk⟩ := hcut
    have h2 := H.out.map hk ho
    have H2 := Lib.hid h2
    have HO := Lib.hid ho
    have c0' : wc.cell? ⟨d, 0, none⟩ = some (.slice (some ⟨g, o, none⟩) T.length c) := h2.cells.cell 0
    have hb2 : Reads wc 1 (.slice ba 64 bcap) 64 (bc l) := Reads.only HB.out.1 ho fun g' hg' => HB.out.2 g' hg'
    have cv2 : wc.cell? ⟨g, o + i, none⟩ = some v := (Only.cell ho (World.block_lt_of_cell? _ _ cv) HG.out.1).trans cv
    have HCL := Lib.hid (fun w' (hs : Still wc w') => clone_b (.slice ba 64 bcap) 64 (bc l) w' (Reads.still hb2 hs) (bc_one l) (by omega))
    have SS := Lib.hid (fun w' (hs : Still wc w') => show w'.cell? ⟨d, 0, none⟩ = some (.slice (some ⟨g, o, none⟩) T.length c) from Still.cell hs c0')
    have HCV := Lib.hid cv2
    have hfr : ∀ w', Still wc w' → w'.frozen? ⟨g, o + i, none⟩ = false := fun w' hs => by
      obtain ⟨g', o', c', he, ht⟩ := (h2.still hs).t.form (by have := HI.out; omega)
      injection he with he _ _
      injection he with he
      injection he with e1 e2
      subst e1 e2
      exact ht.free i (by have := HI.out; omega)
    have HFR := Lib.hid hfr
    clear h2 ho hk hb2 hfr cv cv2 hl c0 c1
    go_wp2_with fail
    refine wp_region_D_drew (D := (fun i => [0, 1, 2, 4, 5, 7, 8].contains i)) (S := (fun w' => w'.cell? ⟨d, 0, none⟩ = some (.slice (some ⟨g, o, none⟩) T.length c))) (by kernel_rfl) ?_ (fun hHeld => ?_)
    · exact SS.out _ (still_drew _)
    (refine takeD (i := 0) (some 42) (v := ?_) rfl (by rfl) (by rfl) (by kernel_rfl) (by rfl) (fun _ _ _ h => h) ?_ ?_; rotate_left; (intro w; go_simp; try with_reducible rfl); try go_frame)
    (refine takeD (i := 1) (some 43) (v := ?_) rfl (by rfl) (by rfl) (by kernel_rfl) (by rfl) (fun _ _ _ h => h) ?_ ?_; rotate_left; (intro w; go_simp; try with_reducible rfl); try go_frame)
    (refine takeD (i := 2) (some 44) (v := ?_) rfl (by rfl) (by rfl) (by kernel_rfl) (by rfl) (fun _ _ _ h => h) ?_ ?_; rotate_left; (intro w; go_simp; try with_reducible rfl); try go_frame)
    (refine takeD (i := 4) (some 46) (v := ?_) rfl (by rfl) (by rfl) (by kernel_rfl) (by rfl) (fun _ _ _ h => h) ?_ ?_; rotate_left; (intro w; go_simp; try with_reducible rfl); try go_frame)
    (refine takeD (i := 5) (some 47) (v := ?_) rfl (by rfl) (by rfl) (by kernel_rfl) (by rfl) (fun _ _ _ h => h) ?_ ?_; rotate_left; (intro w; go_simp; try with_reducible rfl); try go_frame)
    (refine takeS (i := 3) (some 45) (v := ?_) rfl (by rfl) (by rfl) (by kernel_rfl) (by rfl) (fun _ _ _ h => h) (by assumption) ?_ ?_; rotate_left; (intro w hSw; (try dsimp only at hSw); go_simp; try with_reducible rfl); try go_frame)
    refine wpAnyD_ready (rs := [6]) (by kernel_rfl) (by simp) ?_
    refine ReadyD.cons rfl (fun K hK => ?_) ?_
    go_simp
    (go_at_call 44; (with_reducible refine (HCL.out _ (still_drew wc)).mono ?_); rintro e w3 ⟨v3, rfl, hv3, hb3, hg3⟩)
    have hs3 : Still wc w3 := (still_drew wc).trans (Only.ofBelow hb3)
    go_wp2_with fail
    (refine hK.out _ _ ?_ (fun hNew => ?_); (focus (exact SS.out _ hs3)); clear hHeld; have hHeld := hNew; clear hNew)
    (clear hK K; try go_frame)
    have h3 := H2.out.still hs3
    have cv3 := Still.cell hs3 HCV.out
    have f3 := HFR.out _ hs3
    obtain ⟨a3, k3, hv3e⟩ := hv3.form'
    have F := Lib.hid (show WrPost w1 d (T.set i l) (.slice (some ⟨g, o, none⟩) T.length c) mb vs (.returned (.int .i64 0)) (w3.setCell ⟨g, o + i, none⟩ v3) ∧ DkAt (w3.setCell ⟨g, o + i, none⟩ v3) d (T.set i l) (.slice (some ⟨g, o, none⟩) T.length c) mb (vs.set i v3) from by
      have hwz := H2.out.lt
      have hgz := (H2.out.td g rfl).2.2
      have hp := h3.put rfl HI.out.1 hv3.reads (fun g' hg' => by
        have := hg3 g' hg'
        have hz : wc.drew.heap.size = wc.heap.size := rfl
        have e1 := hwz.1
        have e2 := hwz.2
        exact ⟨by omega, by omega, by omega, this.2⟩) (by rw [hv3e]; rfl)
      refine ⟨⟨rfl, _, hp, ?_, fun u hu => ?_⟩, hp⟩
      · exact ((HO.out.mono fun _ e => .inl e).trans (hs3.mono fun _ e => e.elim)).trans ((setCell_only w3 ⟨g, o + i, none⟩ v3).mono fun b e => .inr (by rw [show b = g from e]; rfl))
      · rcases List.mem_or_eq_of_mem_set hu with hu | rfl
        · exact .inl hu
        · refine .inr fun g' hg' => ?_
          have := hg3 g' hg'
          have hz : wc.drew.heap.size = wc.heap.size := rfl
          have := HO.out.size
          omega)
    clear h3 hv3 hb3 hg3 hs3 HFR
    subst hv3e
    (refine takeD (i := 7) (some 49) (v := ?_) rfl (by rfl) (by rfl) (by kernel_rfl) (by rfl) (fun _ _ _ h => h) ?_ ?_; rotate_left; (intro w; go_simp; try with_reducible rfl); try go_frame)
    refine wpAnyD_ready (rs := [8]) (by kernel_rfl) (by simp) ?_
    refine ReadyD.last rfl (by rfl) (fun K hK => ?_) ?_
    go_simp
    refine hK.out _ _ ?_
    (clear hK K; try go_frame)
    refine wpAnyD_done (by kernel_rfl) ?_ _
    rotate_left
    exact ReadyD.nil
    exact ReadyD.nil
    have HCU := Lib.hid (cut_any _ _ _ _ _ _ F.out.2)
    clear cv3 f3 hHeld
    go_wp2_with fail
    refine HCU.out.mono ?_
    rintro e w4 ⟨rfl, rfl⟩
    go_wp2_with fail
    go_ret
    exact F.out.1
end Go.Proofs.YtojkggppcmdepaaGreat
