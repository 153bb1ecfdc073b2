/- From a law's walk to its row: the call returns true and below nothing has turned, so the row holds. Conditions: none but those of the row. Rows of entries that came in: what lies in memory. Conditions: they can be read as data. Rows of deeds that came in (a number, a place, a mask, an entry, raw bytes): what lies in memory. Conditions: they can be read as data. An entry of a row in memory, by its place. No conditions. Entries without lists, compared: equal ones. Conditions: they lie in memory. Entries compared: equal ones. Conditions: they lie in memory. -/
import Derived.Test.YtojkggppcmdepaaGreatQa20
import Derived.WalkKit
import Derived.ProofKit
import Derived.OpenShut
import Derived.ShutString
import Derived.ChangeOld
import Derived.Below
import Derived.Deep.Slices
import Derived.Deep.Fields
import Derived.ChangeSame
import Derived.Lib.BufferRead
namespace Go.Wh
open Go.ChangeShapes Go.WideShapes Go.ChangeAt Go.RowKit

section
variable {H : Type} {enc : TypeId × Value → H} {P : Program}

theorem trodAll_stays (hl : laidOutB P = true) {W W' : World} (hb : Below W.heap.size W W') : ∀ (ts : List TypeId) (vs : List Value) (ds : List (DataW H)) (ps : List MemPlace), (∀ t ∈ ts, P.readableRec t = true ∧ t < P.types.size) →
 DataW.TrodAll enc P W 0 (fun _ => true) true ts vs ds ps → DataW.TrodAll enc P W' 0 (fun b => decide (b < W.heap.size)) true ts vs ds ps
 | [], [], [], _, _, h => h
 | t :: ts, v :: vs, d :: ds, _, hr, h => by
  obtain ⟨p, q, h1, h2, e⟩ := h
  refine ⟨p, q, ?_, trodAll_stays hl hb ts vs ds q (fun t ht => hr t (by simp [ht])) h2, e⟩
  obtain ⟨m, hm⟩ := id h1
  exact Below.trod hl (hr t (by simp)).1 (hr t (by simp)).2 h1 hb (fun x hx => DataW.trod_lt m _ _ _ hm x hx)
 | [], _ :: _, _, _, _, h => h.elim
 | [], [], _ :: _, _, _, h => h.elim
 | _ :: _, [], _, _, _, h => h.elim
 | _ :: _, _ :: _, [], _, _, h => h.elim

theorem law_post {f : Func} {s : ChangeSpec} {apart fresh handsOn : Bool} {W W' : World} {args : Array Value} {ds gs : List (DataW H)} {before : List MemPlace} {t : TypeId} (hl : laidOutB P = true) (hres : f.resultTypes = #[t]) (hbool : P.underlying t = some .bool) (hv : s.vars = [])
 (hp : ∀ t ∈ f.params.toList, P.readableRec t = true ∧ t < P.types.size) (hW : DataW.Whole enc P f.params.toList s.vars apart W args.toList ds gs before)
 (hsp : s.fn H ds = { results := [.lit (.bool true)], args := ds }) (hb : Below W.heap.size W W') : s.post enc P f apart fresh handsOn false W args (.bool true) W' := by
 have hW' := hW
 obtain ⟨p, q, hA, hV, rfl, hz, hn⟩ := hW
 rw [hv] at hV
 obtain ⟨rfl, rfl⟩ := trodVars_none hV
 refine ⟨ds, [], _, [], p, [], hW', ?_, ?_, ?_, hb.frame _, fun h => by cases h⟩
 · rw [List.append_nil, hsp, hres]
   exact trodAll_mk1 (RowKit.shut_bool hbool true)
 · rw [List.append_nil, hsp]
   exact trodAll_stays hl hb _ _ _ _ hp hA
 · rw [List.append_nil, hsp, hv]
   exact hV

def IsRow (k : IntKind) (w : World) (a : Option Addr) (len : Nat) (zs : List Int) : Prop :=
 (len = 0 ∧ zs = []) ∨
 ∃ b off, a = some ⟨b, off, none⟩ ∧ b < w.heap.size ∧ 0 < len ∧ len ≤ maxLen ∧ zs.length = len ∧ (∀ i, i < len → w.cell? ⟨b, off + i, none⟩ = some (.int k (zs.getD i 0))) ∧ ∀ n ∈ zs, (Lit.int k n).wf = true

theorem open_row {t e : TypeId} {k : IntKind} {W : World} {base : Nat} {v : Value} {d : DataW H} {p : List MemPlace} (ht : P.underlying t = some (.slice e)) (he : P.underlying e = some (.int k)) (hc : P.cellsOf e = 1)
 (hval : Value.okWide P W .any base t v) (h : DataW.Trod enc P W 0 (fun _ => true) true t v d p) : ∃ a len cap zs, v = .slice a len cap ∧ IsRow k W a len zs ∧ zs.length = len := by
 obtain ⟨a0, len0, cap0, rfl⟩ := okWide_slice ht hval
 refine ⟨a0, len0, cap0, ?_⟩
 obtain ⟨fuel, hf⟩ := h
 rcases open_ints ht he hc hf with ⟨hcs, _⟩ | ⟨x, l, c, zs, hcs, _, hl, hm, hz, _, hcell, hwz⟩
 · simp [Value.cells] at hcs
   obtain ⟨rfl, rfl, rfl⟩ := hcs
   exact ⟨[], rfl, .inl ⟨rfl, rfl⟩, rfl⟩
 · simp [Value.cells] at hcs
   obtain ⟨rfl, rfl, rfl⟩ := hcs
   simp only [if_true] at hz
   by_cases h0 : len0 = 0
   · exact ⟨[], rfl, .inl ⟨h0, rfl⟩, by simp [h0]⟩
   · have hc0 := hcell 0 (by omega)
     obtain ⟨b, off, spot⟩ := x
     have hspot : spot = none := by simpa [Addr.add] using World.cell?_spot hc0
     subst hspot
     refine ⟨zs.take len0, rfl, .inr ⟨b, off, rfl, World.block_lt_of_cell? _ _ (by simpa [Addr.add] using hc0), by omega, by omega, by simp; omega, fun i hi => ?_, fun n hn => hwz n (List.mem_of_mem_take hn)⟩, by simp; omega⟩
     have := hcell i (by omega)
     rw [show (⟨b, off, none⟩ : Addr).add i = ⟨b, off + i, none⟩ from by unfold Addr.add; split <;> simp_all] at this
     rw [this]
     simp [List.getD, hi]

end

theorem isRow_later {k : IntKind} {W wr : World} {a : Option Addr} {len : Nat} {zs : List Int} (h : IsRow k W a len zs) (hb : Below W.heap.size W wr) {i : Nat} (hi : i < len) :
 ∃ b off, a = some ⟨b, off, none⟩ ∧ wr.cell? ⟨b, off + i, none⟩ = some (.int k (zs.getD i 0)) ∧ (Lit.int k (zs.getD i 0)).wf = true := by
 rcases h with ⟨rfl, _⟩ | ⟨b, off, rfl, hbl, _, _, hz, hc, hw⟩
 · omega
 · refine ⟨b, off, rfl, (hb.cell (p := ⟨b, off + i, none⟩) hbl).trans (hc i hi), hw _ ?_⟩
   rw [List.getD_eq_getElem?_getD, List.getElem?_eq_getElem (by omega)]
   exact List.getElem_mem _

theorem byte_wf {z : Int} (h : (Lit.int .u8 z).wf = true) : 0 ≤ z ∧ z < 256 := by
 have e1 : IntKind.u8.min = 0 := by decide
 have e2 : IntKind.u8.max = 255 := by decide
 simp only [Lit.wf, e1, e2, Bool.and_eq_true, decide_eq_true_eq] at h
 omega
end Go.Wh

namespace Go.Proofs.YtojkggppcmdepaaGreat
open Go.RowKit Go.Wh Go.ChangeShapes Go.WideShapes Go.Deep

theorem choose_row {α : Type} {P : Nat → α → Prop} {m : Nat} (hm : 0 < m) (h : ∀ i, i < m → ∃ a, P i a) : ∃ A : Nat → α, ∀ i, i < m → P i (A i) := by
 obtain ⟨a0, -⟩ := h 0 hm
 have key : ∀ i, ∃ a, i < m → P i a := fun i => by
  by_cases hi : i < m
  · obtain ⟨a, ha⟩ := h i hi
    exact ⟨a, fun _ => ha⟩
  · exact ⟨a0, fun e => absurd e hi⟩
 exact ⟨fun i => (key i).choose, fun i hi => (key i).choose_spec hi⟩
section
variable {H : Type} {enc : TypeId × Value → H}
theorem open_sl {P : Program} {W : World} {t e : TypeId} {sz : Nat} {fuel : Nat} {cs : List Value} {x : DataW H × List MemPlace} (ht : P.underlying t = some (.slice e)) (hsz : P.cellsOf e = sz) (hs0 : 0 < sz) (h : DataW.trod enc P W 0 (fun _ => true) true fuel t cs = some x)
 {α : Type} (f : α → List Value) (hfl : ∀ a, (f a).length = sz) (R : α → Prop) (hf : ∀ n cs' y, cs'.length = sz → DataW.trod enc P W 0 (fun _ => true) true n e cs' = some y → ∃ a, cs' = f a ∧ R a) :
 ∃ (dv : Value) (m : Nat) (l : List α), cs = [dv] ∧ Sl W (fun g => g < W.heap.size) sz dv m (l.flatMap f) ∧ l.length = m ∧ (∀ a ∈ l, R a) ∧ Cap m dv := by
 rcases open_slice ht h with ⟨rfl, -⟩ | ⟨a, len, cap, m, n, D, Pl, rfl, -, hle, -, hm, -, hcell⟩
 · exact ⟨_, 0, [], rfl, Sl.nil, rfl, (fun a ha => by cases ha), ⟨_, _, rfl, Nat.le_refl _⟩⟩
 simp only [if_true] at hm
 subst hm
 rcases Nat.eq_zero_or_pos len with h0 | h0
 · subst h0
   exact ⟨_, 0, [], rfl, Sl.empty (fun e => by cases e), rfl, (fun a ha => by cases ha), ⟨_, _, rfl, Nat.zero_le _⟩⟩
 obtain ⟨b, off, spot⟩ := a
 have hspot : spot = none := by
  obtain ⟨cs0, hc0, _⟩ := hcell 0 (by omega)
  rw [hsz] at hc0
  obtain ⟨_, hlen0, hat0⟩ := World.cells?_some hc0
  have g := hat0 0 (by omega)
  rw [List.getElem?_eq_getElem (by omega)] at g
  have := World.cell?_spot g
  simpa [Addr.add] using this
 subst hspot
 have hadd : ∀ j, (⟨b, off, none⟩ : Addr).add j = ⟨b, off + j, none⟩ := fun j => by unfold Addr.add; split <;> simp_all
 have hel : ∀ i, i < len → ∃ a : α, (∀ r, r < sz → W.cell? ⟨b, off + i * sz + r, none⟩ = (f a)[r]?) ∧ R a := fun i hi => by
  obtain ⟨cs', hc, htr⟩ := hcell i (by omega)
  rw [hsz] at hc
  obtain ⟨_, hlen, hat⟩ := World.cells?_some hc
  obtain ⟨a, rfl, hr⟩ := hf n cs' _ hlen htr
  refine ⟨a, fun r hr => ?_, hr⟩
  have := hat r (by omega)
  rw [hadd] at this
  rw [← this]
  unfold Addr.add
  split <;> simp_all
 obtain ⟨A, hA⟩ := choose_row h0 hel
 have hb : b < W.heap.size := by
  have h1 := (hA 0 h0).1 0 hs0
  rw [List.getElem?_eq_getElem (by rw [hfl]; exact hs0)] at h1
  exact lt_of_cell h1
 refine ⟨_, len, (List.range len).map A, rfl, ⟨by rw [flat_len hfl]; simp, .inr ⟨b, off, _, rfl, fun _ => ⟨hb, hb⟩, fun j u hj => ?_⟩⟩, by simp, fun a ha => ?_, ⟨_, _, rfl, hle⟩⟩
 · have hjl := (List.getElem?_eq_some_iff.1 hj).1
   rw [flat_len hfl] at hjl
   simp only [List.length_map, List.length_range] at hjl
   have hq : j / sz < len := Nat.div_lt_of_lt_mul (by rw [Nat.mul_comm]; exact hjl)
   have hr : j % sz < sz := Nat.mod_lt _ hs0
   have hjd : j / sz * sz + j % sz = j := by rw [Nat.mul_comm]; exact Nat.div_add_mod j sz
   have h1 := (hA (j / sz) hq).1 (j % sz) hr
   rw [Nat.add_assoc, hjd] at h1
   rw [h1, ← hj]
   have h2 := flat_get hfl ((List.range len).map A) (j / sz) (j % sz) (A (j / sz)) (by rw [List.getElem?_map, List.getElem?_range hq]; rfl) hr
   rw [hjd] at h2
   exact h2.symm
 · obtain ⟨i, hi, rfl⟩ := List.mem_map.1 ha
   exact (hA i (List.mem_range.1 hi)).2
theorem flat_bc : ∀ l : List Int, l.flatMap (fun z => [Value.int .u8 z]) = bc l
 | [] => rfl
 | a :: l => by
  rw [List.flatMap_cons, flat_bc l]
  rfl
theorem k_int : Tryz.prog.cellsOf 3 = 1 := by kernel_rfl
theorem k_bool : Tryz.prog.cellsOf 4 = 1 := by kernel_rfl
theorem k_u8 : Tryz.prog.cellsOf 5 = 1 := by kernel_rfl
theorem k_rid : Tryz.prog.cellsOf 28 = 2 := by kernel_rfl
theorem k_mv : Tryz.prog.cellsOf 119 = 4 := by kernel_rfl
theorem k_lv : Tryz.prog.cellsOf 108 = 4 := by kernel_rfl
theorem k_dt : Tryz.prog.cellsOf 110 = 2 := by kernel_rfl
theorem k_op : Tryz.prog.cellsOf 112 = 3 := by kernel_rfl
theorem k_en : Tryz.prog.cellsOf 34 = 16 := by kernel_rfl
theorem k_s8 : Tryz.prog.cellsOf 23 = 1 := by kernel_rfl
theorem k_smv : Tryz.prog.cellsOf 29 = 1 := by kernel_rfl
theorem k_slv : Tryz.prog.cellsOf 30 = 1 := by kernel_rfl
theorem k_sdt : Tryz.prog.cellsOf 31 = 1 := by kernel_rfl
theorem k_sop : Tryz.prog.cellsOf 32 = 1 := by kernel_rfl
variable {W : World} {fuel : Nat} {cs : List Value} {x : DataW H × List MemPlace}
set_option maxRecDepth 100000 in
theorem open_bytes (h : DataW.trod enc Tryz.prog W 0 (fun _ => true) true fuel 23 cs = some x) : ∃ (dv : Value) (l : List Int), cs = [dv] ∧ Sl W (fun g => g < W.heap.size) 1 dv l.length (bc l) ∧ Byt l ∧ Cap l.length dv := by
 obtain ⟨dv, m, l, h1, h2, h3, h4, h5⟩ := open_sl (α := Int) Tryz.underlying23 k_u8 (by decide) h (fun z => [.int .u8 z]) (fun _ => rfl) (fun z => 0 ≤ z ∧ z ≤ 255) (fun n cs' y _ ht => by
  obtain ⟨z, e, _, hw⟩ := DataW.trod_int Tryz.underlying5 ht
  have := byte_wf hw
  exact ⟨z, e, by omega, by omega⟩)
 rw [flat_bc] at h2
 subst h3
 exact ⟨dv, l, h1, h2, h4, h5⟩
set_option maxRecDepth 100000 in
theorem open_rid (hlen : cs.length = 2) (h : DataW.trod enc Tryz.prog W 0 (fun _ => true) true fuel 28 cs = some x) : ∃ p c, cs = [.int .i64 p, .int .i64 c] := by
 obtain ⟨xs, n', _, _, _, hxl, hfld⟩ := DataW.trod_struct Tryz.underlying28 h
 match cs, hlen with
 | [v0, v1], _ =>
  have hxl' : xs.length = 2 := hxl
  match xs, hxl' with
  | [y0, y1], _ =>
   have g0 := hfld 0 ⟨"Page", 3, 0, false, "", "", 0⟩ rfl
   have g1 := hfld 1 ⟨"Cell", 3, 1, false, "", "", 8⟩ rfl
   simp only [k_int, List.drop_zero, List.take_succ_cons, List.take_zero, List.getElem?_cons_zero] at g0
   simp only [k_int, List.drop_succ_cons, List.drop_zero, List.take_succ_cons, List.take_zero, List.getElem?_cons_succ, List.getElem?_cons_zero] at g1
   obtain ⟨c0, e0, _, _⟩ := DataW.trod_int Tryz.underlying3 g0
   have e0 := (List.cons.inj e0).1
   subst e0
   obtain ⟨c1, e1, _, _⟩ := DataW.trod_int Tryz.underlying3 g1
   have e1 := (List.cons.inj e1).1
   subst e1
   exact ⟨c0, c1, rfl⟩
set_option maxRecDepth 100000 in
theorem open_mv (hlen : cs.length = 4) (h : DataW.trod enc Tryz.prog W 0 (fun _ => true) true fuel 119 cs = some x) : ∃ m : PMv, cs = mvC m ∧ True := by
 obtain ⟨xs, n', _, _, _, hxl, hfld⟩ := DataW.trod_struct Tryz.underlying119 h
 match cs, hlen with
 | [v0, v1, v2, v3], _ =>
  have hxl' : xs.length = 2 := hxl
  match xs, hxl' with
  | [y0, y1], _ =>
   have g0 := hfld 0 ⟨"From", 28, 0, false, "", "", 0⟩ rfl
   have g1 := hfld 1 ⟨"To", 28, 2, false, "", "", 16⟩ rfl
   simp only [k_rid, List.drop_zero, List.take_succ_cons, List.take_zero, List.getElem?_cons_zero] at g0
   simp only [k_rid, List.drop_succ_cons, List.drop_zero, List.take_succ_cons, List.take_zero, List.getElem?_cons_succ, List.getElem?_cons_zero] at g1
   obtain ⟨p0, c0, e0⟩ := open_rid rfl g0
   have e0a := (List.cons.inj e0).1
   have e0b := (List.cons.inj (List.cons.inj e0).2).1
   subst e0a e0b
   obtain ⟨p2, c2, e2⟩ := open_rid rfl g1
   have e2a := (List.cons.inj e2).1
   have e2b := (List.cons.inj (List.cons.inj e2).2).1
   subst e2a e2b
   exact ⟨⟨p0, c0, p2, c2⟩, rfl, trivial⟩
set_option maxRecDepth 100000 in
theorem open_lv (hlen : cs.length = 4) (h : DataW.trod enc Tryz.prog W 0 (fun _ => true) true fuel 108 cs = some x) : ∃ m : PLv, cs = lvC m ∧ True := by
 obtain ⟨xs, n', _, _, _, hxl, hfld⟩ := DataW.trod_struct Tryz.underlying108 h
 match cs, hlen with
 | [v0, v1, v2, v3], _ =>
  have hxl' : xs.length = 4 := hxl
  match xs, hxl' with
  | [y0, y1, y2, y3], _ =>
   have g0 := hfld 0 ⟨"Txn", 3, 0, false, "", "", 0⟩ rfl
   have g1 := hfld 1 ⟨"Last", 3, 1, false, "", "", 8⟩ rfl
   have g2 := hfld 2 ⟨"Next", 3, 2, false, "", "", 16⟩ rfl
   have g3 := hfld 3 ⟨"Commit", 4, 3, false, "", "", 24⟩ rfl
   simp only [k_int, List.drop_zero, List.take_succ_cons, List.take_zero, List.getElem?_cons_zero] at g0
   simp only [k_int, List.drop_succ_cons, List.drop_zero, List.take_succ_cons, List.take_zero, List.getElem?_cons_succ, List.getElem?_cons_zero] at g1
   simp only [k_int, List.drop_succ_cons, List.drop_zero, List.take_succ_cons, List.take_zero, List.getElem?_cons_succ, List.getElem?_cons_zero] at g2
   simp only [k_bool, List.drop_succ_cons, List.drop_zero, List.take_succ_cons, List.take_zero, List.getElem?_cons_succ, List.getElem?_cons_zero] at g3
   obtain ⟨c0, e0, _, _⟩ := DataW.trod_int Tryz.underlying3 g0
   have e0 := (List.cons.inj e0).1
   subst e0
   obtain ⟨c1, e1, _, _⟩ := DataW.trod_int Tryz.underlying3 g1
   have e1 := (List.cons.inj e1).1
   subst e1
   obtain ⟨c2, e2, _, _⟩ := DataW.trod_int Tryz.underlying3 g2
   have e2 := (List.cons.inj e2).1
   subst e2
   obtain ⟨c3, e3, _⟩ := DataW.trod_bool Tryz.underlying4 g3
   have e3 := (List.cons.inj e3).1
   subst e3
   exact ⟨⟨c0, c1, c2, c3⟩, rfl, trivial⟩
set_option maxRecDepth 100000 in
theorem open_dt (hlen : cs.length = 2) (h : DataW.trod enc Tryz.prog W 0 (fun _ => true) true fuel 110 cs = some x) : ∃ m : PDt, cs = dtC m ∧ True := by
 obtain ⟨xs, n', _, _, _, hxl, hfld⟩ := DataW.trod_struct Tryz.underlying110 h
 match cs, hlen with
 | [v0, v1], _ =>
  have hxl' : xs.length = 2 := hxl
  match xs, hxl' with
  | [y0, y1], _ =>
   have g0 := hfld 0 ⟨"Page", 3, 0, false, "", "", 0⟩ rfl
   have g1 := hfld 1 ⟨"Rec", 3, 1, false, "", "", 8⟩ rfl
   simp only [k_int, List.drop_zero, List.take_succ_cons, List.take_zero, List.getElem?_cons_zero] at g0
   simp only [k_int, List.drop_succ_cons, List.drop_zero, List.take_succ_cons, List.take_zero, List.getElem?_cons_succ, List.getElem?_cons_zero] at g1
   obtain ⟨c0, e0, _, _⟩ := DataW.trod_int Tryz.underlying3 g0
   have e0 := (List.cons.inj e0).1
   subst e0
   obtain ⟨c1, e1, _, _⟩ := DataW.trod_int Tryz.underlying3 g1
   have e1 := (List.cons.inj e1).1
   subst e1
   exact ⟨⟨c0, c1⟩, rfl, trivial⟩
set_option maxRecDepth 100000 in
theorem open_moves (h : DataW.trod enc Tryz.prog W 0 (fun _ => true) true fuel 29 cs = some x) : ∃ (dv : Value) (l : List PMv), cs = [dv] ∧ Sl W (fun g => g < W.heap.size) 4 dv l.length (l.flatMap mvC) := by
 obtain ⟨dv, m, l, h1, h2, h3, h4, h5⟩ := open_sl Tryz.underlying29 k_mv (by decide) h mvC (fun _ => rfl) (fun _ => True) (fun n cs' y hl ht => open_mv hl ht)
 subst h3
 exact ⟨dv, l, h1, h2⟩
set_option maxRecDepth 100000 in
theorem open_lives (h : DataW.trod enc Tryz.prog W 0 (fun _ => true) true fuel 30 cs = some x) : ∃ (dv : Value) (l : List PLv), cs = [dv] ∧ Sl W (fun g => g < W.heap.size) 4 dv l.length (l.flatMap lvC) := by
 obtain ⟨dv, m, l, h1, h2, h3, h4, h5⟩ := open_sl Tryz.underlying30 k_lv (by decide) h lvC (fun _ => rfl) (fun _ => True) (fun n cs' y hl ht => open_lv hl ht)
 subst h3
 exact ⟨dv, l, h1, h2⟩
set_option maxRecDepth 100000 in
theorem open_dirty (h : DataW.trod enc Tryz.prog W 0 (fun _ => true) true fuel 31 cs = some x) : ∃ (dv : Value) (l : List PDt), cs = [dv] ∧ Sl W (fun g => g < W.heap.size) 2 dv l.length (l.flatMap dtC) := by
 obtain ⟨dv, m, l, h1, h2, h3, h4, h5⟩ := open_sl Tryz.underlying31 k_dt (by decide) h dtC (fun _ => rfl) (fun _ => True) (fun n cs' y hl ht => open_dt hl ht)
 subst h3
 exact ⟨dv, l, h1, h2⟩
set_option maxRecDepth 100000 in
theorem open_op (hlen : cs.length = 3) (h : DataW.trod enc Tryz.prog W 0 (fun _ => true) true fuel 112 cs = some x) : ∃ m : POp × Value, cs = opC m ∧ Sl W (fun g => g < W.heap.size) 4 m.2 m.1.moves.length (m.1.moves.flatMap mvC) := by
 obtain ⟨xs, n', _, _, _, hxl, hfld⟩ := DataW.trod_struct Tryz.underlying112 h
 match cs, hlen with
 | [v0, v1, v2], _ =>
  have hxl' : xs.length = 3 := hxl
  match xs, hxl' with
  | [y0, y1, y2], _ =>
   have g0 := hfld 0 ⟨"Unit", 3, 0, false, "", "", 0⟩ rfl
   have g1 := hfld 1 ⟨"Moves", 29, 1, false, "", "", 8⟩ rfl
   have g2 := hfld 2 ⟨"Done", 3, 2, false, "", "", 32⟩ rfl
   simp only [k_int, List.drop_zero, List.take_succ_cons, List.take_zero, List.getElem?_cons_zero] at g0
   simp only [k_smv, List.drop_succ_cons, List.drop_zero, List.take_succ_cons, List.take_zero, List.getElem?_cons_succ, List.getElem?_cons_zero] at g1
   simp only [k_int, List.drop_succ_cons, List.drop_zero, List.take_succ_cons, List.take_zero, List.getElem?_cons_succ, List.getElem?_cons_zero] at g2
   obtain ⟨c0, e0, _, _⟩ := DataW.trod_int Tryz.underlying3 g0
   have e0 := (List.cons.inj e0).1
   subst e0
   obtain ⟨d1, l1, e1, s1⟩ := open_moves g1
   have e1 := (List.cons.inj e1).1
   subst e1
   obtain ⟨c2, e2, _, _⟩ := DataW.trod_int Tryz.underlying3 g2
   have e2 := (List.cons.inj e2).1
   subst e2
   exact ⟨(⟨c0, l1, c2⟩, v1), rfl, s1⟩
set_option maxRecDepth 100000 in
theorem open_opens (h : DataW.trod enc Tryz.prog W 0 (fun _ => true) true fuel 32 cs = some x) : ∃ (dv : Value) (l : List POp), cs = [dv] ∧ OpSl W (fun g => g < W.heap.size) dv l.length l := by
 obtain ⟨dv, m, l, h1, h2, h3, h4, h5⟩ := open_sl Tryz.underlying32 k_op (by decide) h opC (fun _ => rfl) (fun m : POp × Value => Sl W (fun g => g < W.heap.size) 4 m.2 m.1.moves.length (m.1.moves.flatMap mvC)) (fun n cs' y hl ht => open_op hl ht)
 subst h3
 refine ⟨dv, l.map (·.1), h1, l.map (·.2), by simp, ?_, fun k o mv hk hm => ?_⟩
 · have e : (l.map (·.1)).zip (l.map (·.2)) = l := by
    rw [List.zip_map']
    simp
   rw [e, List.length_map]
   exact h2
 · rw [List.getElem?_map, Option.map_eq_some_iff] at hk hm
   obtain ⟨a, ha, rfl⟩ := hk
   obtain ⟨a', ha', rfl⟩ := hm
   rw [ha] at ha'
   cases ha'
   exact h4 a (List.mem_of_getElem? ha)
structure PEx where
 e : PE
 ov : Value
 nv : Value
 mv : Value
 lv : Value
 dv : Value
 pv : Value
def PEx.cells (z : PEx) : List Value := (eV z.e z.ov z.nv z.mv z.lv z.dv z.pv).toList
set_option maxRecDepth 100000 in
theorem open_en (hlen : cs.length = 16) (h : DataW.trod enc Tryz.prog W 0 (fun _ => true) true fuel 34 cs = some x) : ∃ z : PEx, cs = z.cells ∧ EIs W (fun g => g < W.heap.size) z.e z.ov z.nv z.mv z.lv z.dv z.pv := by
 obtain ⟨xs, n', _, _, _, hxl, hfld⟩ := DataW.trod_struct Tryz.underlying34 h
 match cs, hlen with
 | [v0, v1, v2, v3, v4, v5, v6, v7, v8, v9, v10, v11, v12, v13, v14, v15], _ =>
  have hxl' : xs.length = 14 := hxl
  match xs, hxl' with
  | [y0, y1, y2, y3, y4, y5, y6, y7, y8, y9, y10, y11, y12, y13], _ =>
   have g0 := hfld 0 ⟨"Kind", 3, 0, false, "", "", 0⟩ rfl
   have g1 := hfld 1 ⟨"Txn", 3, 1, false, "", "", 8⟩ rfl
   have g2 := hfld 2 ⟨"Unit", 3, 2, false, "", "", 16⟩ rfl
   have g3 := hfld 3 ⟨"Half", 3, 3, false, "", "", 24⟩ rfl
   have g4 := hfld 4 ⟨"Prev", 3, 4, false, "", "", 32⟩ rfl
   have g5 := hfld 5 ⟨"Next", 3, 5, false, "", "", 40⟩ rfl
   have g6 := hfld 6 ⟨"At", 28, 6, false, "", "", 48⟩ rfl
   have g7 := hfld 7 ⟨"To", 28, 8, false, "", "", 64⟩ rfl
   have g8 := hfld 8 ⟨"Old", 23, 10, false, "", "", 80⟩ rfl
   have g9 := hfld 9 ⟨"New", 23, 11, false, "", "", 104⟩ rfl
   have g10 := hfld 10 ⟨"Moves", 29, 12, false, "", "", 128⟩ rfl
   have g11 := hfld 11 ⟨"Lives", 30, 13, false, "", "", 152⟩ rfl
   have g12 := hfld 12 ⟨"Dirty", 31, 14, false, "", "", 176⟩ rfl
   have g13 := hfld 13 ⟨"Open", 32, 15, false, "", "", 200⟩ rfl
   simp only [k_int, List.drop_zero, List.take_succ_cons, List.take_zero, List.getElem?_cons_zero] at g0
   simp only [k_int, List.drop_succ_cons, List.drop_zero, List.take_succ_cons, List.take_zero, List.getElem?_cons_succ, List.getElem?_cons_zero] at g1
   simp only [k_int, List.drop_succ_cons, List.drop_zero, List.take_succ_cons, List.take_zero, List.getElem?_cons_succ, List.getElem?_cons_zero] at g2
   simp only [k_int, List.drop_succ_cons, List.drop_zero, List.take_succ_cons, List.take_zero, List.getElem?_cons_succ, List.getElem?_cons_zero] at g3
   simp only [k_int, List.drop_succ_cons, List.drop_zero, List.take_succ_cons, List.take_zero, List.getElem?_cons_succ, List.getElem?_cons_zero] at g4
   simp only [k_int, List.drop_succ_cons, List.drop_zero, List.take_succ_cons, List.take_zero, List.getElem?_cons_succ, List.getElem?_cons_zero] at g5
   simp only [k_rid, List.drop_succ_cons, List.drop_zero, List.take_succ_cons, List.take_zero, List.getElem?_cons_succ, List.getElem?_cons_zero] at g6
   simp only [k_rid, List.drop_succ_cons, List.drop_zero, List.take_succ_cons, List.take_zero, List.getElem?_cons_succ, List.getElem?_cons_zero] at g7
   simp only [k_s8, List.drop_succ_cons, List.drop_zero, List.take_succ_cons, List.take_zero, List.getElem?_cons_succ, List.getElem?_cons_zero] at g8
   simp only [k_s8, List.drop_succ_cons, List.drop_zero, List.take_succ_cons, List.take_zero, List.getElem?_cons_succ, List.getElem?_cons_zero] at g9
   simp only [k_smv, List.drop_succ_cons, List.drop_zero, List.take_succ_cons, List.take_zero, List.getElem?_cons_succ, List.getElem?_cons_zero] at g10
   simp only [k_slv, List.drop_succ_cons, List.drop_zero, List.take_succ_cons, List.take_zero, List.getElem?_cons_succ, List.getElem?_cons_zero] at g11
   simp only [k_sdt, List.drop_succ_cons, List.drop_zero, List.take_succ_cons, List.take_zero, List.getElem?_cons_succ, List.getElem?_cons_zero] at g12
   simp only [k_sop, List.drop_succ_cons, List.drop_zero, List.take_succ_cons, List.take_zero, List.getElem?_cons_succ, List.getElem?_cons_zero] at g13
   obtain ⟨c0, e0, _, _⟩ := DataW.trod_int Tryz.underlying3 g0
   have e0 := (List.cons.inj e0).1
   subst e0
   obtain ⟨c1, e1, _, _⟩ := DataW.trod_int Tryz.underlying3 g1
   have e1 := (List.cons.inj e1).1
   subst e1
   obtain ⟨c2, e2, _, _⟩ := DataW.trod_int Tryz.underlying3 g2
   have e2 := (List.cons.inj e2).1
   subst e2
   obtain ⟨c3, e3, _, _⟩ := DataW.trod_int Tryz.underlying3 g3
   have e3 := (List.cons.inj e3).1
   subst e3
   obtain ⟨c4, e4, _, _⟩ := DataW.trod_int Tryz.underlying3 g4
   have e4 := (List.cons.inj e4).1
   subst e4
   obtain ⟨c5, e5, _, _⟩ := DataW.trod_int Tryz.underlying3 g5
   have e5 := (List.cons.inj e5).1
   subst e5
   obtain ⟨p6, c6, e6⟩ := open_rid rfl g6
   have e6a := (List.cons.inj e6).1
   have e6b := (List.cons.inj (List.cons.inj e6).2).1
   subst e6a e6b
   obtain ⟨p8, c8, e8⟩ := open_rid rfl g7
   have e8a := (List.cons.inj e8).1
   have e8b := (List.cons.inj (List.cons.inj e8).2).1
   subst e8a e8b
   obtain ⟨d10, l10, e10, s10, b10, -⟩ := open_bytes g8
   have e10 := (List.cons.inj e10).1
   subst e10
   obtain ⟨d11, l11, e11, s11, b11, -⟩ := open_bytes g9
   have e11 := (List.cons.inj e11).1
   subst e11
   obtain ⟨d12, l12, e12, s12⟩ := open_moves g10
   have e12 := (List.cons.inj e12).1
   subst e12
   obtain ⟨d13, l13, e13, s13⟩ := open_lives g11
   have e13 := (List.cons.inj e13).1
   subst e13
   obtain ⟨d14, l14, e14, s14⟩ := open_dirty g12
   have e14 := (List.cons.inj e14).1
   subst e14
   obtain ⟨d15, l15, e15, s15⟩ := open_opens g13
   have e15 := (List.cons.inj e15).1
   subst e15
   exact ⟨⟨⟨c0, c1, c2, c3, c4, c5, p6, c6, p8, c8, l10, l11, l12, l13, l14, l15⟩, v10, v11, v12, v13, v14, v15⟩, rfl, ⟨s10, s11, s12, s13, s14, s15, b10, b11⟩⟩
set_option maxRecDepth 100000 in
theorem open_entries {base : Nat} {v : Value} {d : DataW H} {p : List MemPlace} (hval : Value.okWide Tryz.prog W .any base 22 v) (h : DataW.Trod enc Tryz.prog W 0 (fun _ => true) true 22 v d p) : ∃ (a : Option Addr) (c : Nat) (es : List PE), v = .slice a es.length c ∧ Ents W (fun g => g < W.heap.size) v es := by
 obtain ⟨a0, len0, cap0, rfl⟩ := okWide_slice Tryz.underlying22 hval
 obtain ⟨fuel, hf⟩ := h
 obtain ⟨dv, m, l, h1, h2, h3, h4, h5⟩ := open_sl Tryz.underlying22 k_en (by decide) hf PEx.cells (fun _ => rfl) (fun z : PEx => EIs W (fun g => g < W.heap.size) z.e z.ov z.nv z.mv z.lv z.dv z.pv) (fun n cs' y hl ht => open_en hl ht)
 have h1' : Value.slice a0 len0 cap0 = dv := by
  have : [Value.slice a0 len0 cap0] = [dv] := h1
  exact (List.cons.inj this).1
 subst h3
 obtain ⟨a, c, e⟩ := h2.form
 rw [← h1'] at e h2
 have e2 : len0 = l.length := (Value.slice.inj e).2.1
 subst e2
 refine ⟨a0, cap0, l.map (·.e), by rw [List.length_map], l.map PEx.cells, ⟨by simp, fun k e c hk hc => ?_⟩, ?_⟩
 · rw [List.getElem?_map, Option.map_eq_some_iff] at hk hc
   obtain ⟨z, hz, rfl⟩ := hk
   obtain ⟨z', hz', rfl⟩ := hc
   rw [hz] at hz'
   cases hz'
   exact ⟨_, _, _, _, _, _, rfl, h4 z (List.mem_of_getElem? hz)⟩
 · rw [List.length_map, ← List.flatMap_def]
   exact h2
set_option maxRecDepth 100000 in
theorem open_row8 {base : Nat} {v : Value} {d : DataW H} {p : List MemPlace} (hval : Value.okWide Tryz.prog W .any base 23 v) (h : DataW.Trod enc Tryz.prog W 0 (fun _ => true) true 23 v d p) : ∃ (a : Option Addr) (c : Nat) (l : List Int), v = .slice a l.length c ∧ Sl W (fun g => g < W.heap.size) 1 v l.length (bc l) ∧ Byt l ∧ Cap l.length v := by
 obtain ⟨a0, len0, cap0, rfl⟩ := okWide_slice Tryz.underlying23 hval
 obtain ⟨fuel, hf⟩ := h
 obtain ⟨dv, l, h1, h2, h3, h4⟩ := open_bytes hf
 have h1' : Value.slice a0 len0 cap0 = dv := by
  have : [Value.slice a0 len0 cap0] = [dv] := h1
  exact (List.cons.inj this).1
 subst h1'
 obtain ⟨a, c, e⟩ := h2.form
 have e2 : len0 = l.length := (Value.slice.inj e).2.1
 subst e2
 exact ⟨a0, cap0, l, rfl, h2, h3, h4⟩
end
end Go.Proofs.YtojkggppcmdepaaGreat

namespace Go.Proofs.YtojkggppcmdepaaGreat
open Go.RowKit Go.Wh Go.ChangeShapes Go.WideShapes Go.Deep

section
variable {H : Type} {enc : TypeId × Value → H}
theorem int_wf {z : Int} (h : (Lit.int .i64 z).wf = true) : -9223372036854775808 ≤ z ∧ z ≤ 9223372036854775807 := by
 have e1 : IntKind.i64.min = -9223372036854775808 := by decide
 have e2 : IntKind.i64.max = 9223372036854775807 := by decide
 simp only [Lit.wf, e1, e2, Bool.and_eq_true, decide_eq_true_eq] at h
 omega
structure PDd where
 kind : Int
 at_ : Int
 mask : List Int
 raw : List Int
 z : PEx
 kv : Value
 rv : Value
def PDd.cells (D : PDd) : List Value := .int .i64 D.kind :: .int .i64 D.at_ :: D.kv :: (D.z.cells ++ [D.rv])
theorem PDd.cells_length (D : PDd) : D.cells.length = 20 := rfl
structure DdIs (W : World) (D : PDd) : Prop where
 m : Sl W (fun g => g < W.heap.size) 1 D.kv D.mask.length (bc D.mask)
 mb : Byt D.mask
 e : EIs W (fun g => g < W.heap.size) D.z.e D.z.ov D.z.nv D.z.mv D.z.lv D.z.dv D.z.pv
 r : Sl W (fun g => g < W.heap.size) 1 D.rv D.raw.length (bc D.raw)
 rb : Byt D.raw
 k0 : -9223372036854775808 ≤ D.kind
 k1 : D.kind ≤ 9223372036854775807
 a0 : -9223372036854775808 ≤ D.at_
 a1 : D.at_ ≤ 9223372036854775807
variable {W : World} {fuel : Nat} {cs : List Value} {x : DataW H × List MemPlace}
theorem k_dd : Tryz.prog.cellsOf 53 = 20 := by kernel_rfl
set_option maxRecDepth 100000 in
theorem open_dd (hlen : cs.length = 20) (h : DataW.trod enc Tryz.prog W 0 (fun _ => true) true fuel 53 cs = some x) : ∃ D : PDd, cs = D.cells ∧ DdIs W D := by
 obtain ⟨xs, n', _, _, _, hxl, hfld⟩ := DataW.trod_struct Tryz.underlying53 h
 match cs, hlen with
 | [v0, v1, v2, v3, v4, v5, v6, v7, v8, v9, v10, v11, v12, v13, v14, v15, v16, v17, v18, v19], _ =>
  have hxl' : xs.length = 5 := hxl
  match xs, hxl' with
  | [y0, y1, y2, y3, y4], _ =>
   have g0 := hfld 0 ⟨"Kind", 3, 0, false, "", "", 0⟩ rfl
   have g1 := hfld 1 ⟨"At", 3, 1, false, "", "", 8⟩ rfl
   have g2 := hfld 2 ⟨"Mask", 23, 2, false, "", "", 16⟩ rfl
   have g3 := hfld 3 ⟨"E", 34, 3, false, "", "", 40⟩ rfl
   have g4 := hfld 4 ⟨"Raw", 23, 19, false, "", "", 264⟩ rfl
   simp only [k_int, List.drop_zero, List.take_succ_cons, List.take_zero, List.getElem?_cons_zero] at g0
   simp only [k_int, List.drop_succ_cons, List.drop_zero, List.take_succ_cons, List.take_zero, List.getElem?_cons_succ, List.getElem?_cons_zero] at g1
   simp only [k_s8, List.drop_succ_cons, List.drop_zero, List.take_succ_cons, List.take_zero, List.getElem?_cons_succ, List.getElem?_cons_zero] at g2
   simp only [k_en, List.drop_succ_cons, List.drop_zero, List.take_succ_cons, List.take_zero, List.getElem?_cons_succ, List.getElem?_cons_zero] at g3
   simp only [k_s8, List.drop_succ_cons, List.drop_zero, List.take_succ_cons, List.take_zero, List.getElem?_cons_succ, List.getElem?_cons_zero] at g4
   obtain ⟨c0, e0, _, b0⟩ := DataW.trod_int Tryz.underlying3 g0
   have e0 := (List.cons.inj e0).1
   subst e0
   obtain ⟨c1, e1, _, b1⟩ := DataW.trod_int Tryz.underlying3 g1
   have e1 := (List.cons.inj e1).1
   subst e1
   obtain ⟨d2, l2, e2, s2, m2, -⟩ := open_bytes g2
   have e2 := (List.cons.inj e2).1
   subst e2
   obtain ⟨z, e3, s3⟩ := open_en rfl g3
   obtain ⟨d4, l4, e4, s4, m4, -⟩ := open_bytes g4
   have e4 := (List.cons.inj e4).1
   subst e4
   refine ⟨⟨c0, c1, l2, l4, z, v2, v19⟩, ?_, ⟨s2, m2, s3, s4, m4, ?_, ?_, ?_, ?_⟩⟩
   · unfold PDd.cells
     rw [← e3]
     rfl
   · exact (int_wf b0).1
   · exact (int_wf b0).2
   · exact (int_wf b1).1
   · exact (int_wf b1).2
set_option maxRecDepth 100000 in
theorem open_deeds {base : Nat} {v : Value} {d : DataW H} {p : List MemPlace} (hval : Value.okWide Tryz.prog W .any base 40 v) (h : DataW.Trod enc Tryz.prog W 0 (fun _ => true) true 40 v d p) :
 ∃ (a : Option Addr) (c : Nat) (l : List PDd), v = .slice a l.length c ∧ Sl W (fun g => g < W.heap.size) 20 v l.length (l.flatMap PDd.cells) ∧ ∀ D ∈ l, DdIs W D := by
 obtain ⟨a0, len0, cap0, rfl⟩ := okWide_slice Tryz.underlying40 hval
 obtain ⟨fuel, hf⟩ := h
 obtain ⟨dv, m, l, h1, h2, h3, h4, h5⟩ := open_sl Tryz.underlying40 k_dd (by decide) hf PDd.cells (fun _ => rfl) (fun D => DdIs W D) (fun n cs' y hl ht => open_dd hl ht)
 have h1' : Value.slice a0 len0 cap0 = dv := by
  have : [Value.slice a0 len0 cap0] = [dv] := h1
  exact (List.cons.inj this).1
 subst h3
 obtain ⟨a, c, e⟩ := h2.form
 rw [← h1'] at e h2
 have e2 : len0 = l.length := (Value.slice.inj e).2.1
 subst e2
 exact ⟨a0, cap0, l, rfl, h2, h4⟩
end
end Go.Proofs.YtojkggppcmdepaaGreat

namespace Go.Proofs.YtojkggppcmdepaaGreat
open Go.RowKit Go.Wh Go.Maps

theorem Ents.at {w : World} {C : Nat → Prop} {a : Option Addr} {n c i : Nat} {es : List PE} {e : PE} (h : Ents w C (.slice a n c) es) (he : es[i]? = some e) :
 ∃ g o oa oc na nc ma mc ka kc da dc va vc, a = some ⟨g, o, none⟩ ∧ n = es.length ∧ EIs w C e (.slice oa e.old.length oc) (.slice na e.new.length nc) (.slice ma e.moves.length mc) (.slice ka e.lives.length kc) (.slice da e.dirty.length dc) (.slice va e.opens.length vc) ∧
  ∀ j u, j < 16 → (eV e (.slice oa e.old.length oc) (.slice na e.new.length nc) (.slice ma e.moves.length mc) (.slice ka e.lives.length kc) (.slice da e.dirty.length dc) (.slice va e.opens.length vc)).toList[j]? = some u → w.cell? ⟨g, o + (i * 16 + j), none⟩ = some u := by
 obtain ⟨vs, hv1, hv2⟩ := h
 have hi := (List.getElem?_eq_some_iff.1 he).1
 obtain ⟨g, o, c', e', -, -, hcs⟩ := hv2.pos (by omega)
 obtain ⟨ov, nv, mv, lv, dv, pv, h1, h2⟩ := hv1.2 i e (vs[i]'(by rw [hv1.1]; exact hi)) he (List.getElem?_eq_getElem _)
 obtain ⟨oa, oc, na, nc, ma, mc, la, lc, da, dc, xa, xc, rfl, rfl, rfl, rfl, rfl, rfl⟩ := h2.forms
 injection e' with e1 e2 e3
 refine ⟨g, o, _, _, _, _, _, _, _, _, _, _, _, _, e1, e2, h2, fun j u hj hu => hcs _ _ ?_⟩
 rw [flatten_get vs i j _ hv1.sizes (List.getElem?_eq_getElem (by rw [hv1.1]; exact hi)) hj, h1]
 exact hu
end Go.Proofs.YtojkggppcmdepaaGreat

namespace Go.Proofs.YtojkggppcmdepaaGreat
open Go.RowKit Go.Wh Go.Maps

theorem conv_sl {w : World} {Q : Nat → Prop} {v : Value} {n : Nat} {l : List Int} (h : Sl w Q 1 v n (bc l)) : (convert 23 9 v).run Tryz.prog w = .ok (.string (strOfNums l)) w := by
 have hl : l.length = n := by have := h.1; rw [bc_length] at this; omega
 rcases h.2 with ⟨rfl | ⟨a, c, rfl⟩, rfl⟩ | ⟨g, o, c, rfl, -, hc⟩
 rotate_left
 · rw [List.length_eq_zero_iff.1 hl]
   exact convB0 a c
 rotate_left
 · rw [List.length_eq_zero_iff.1 hl]
   exact Lib.run_convert_nil_bytes w 23 9 5 0 Tryz.underlying23 Tryz.underlying5 Tryz.underlying9
 · exact run_convert_bytes_arg _ 23 5 Tryz.underlying23 Tryz.underlying5 g o n c l hl (fun i hi => by
    have hil : i < l.length := by omega
    rw [hc i (.int .u8 l[i]) (bc_get (List.getElem?_eq_getElem hil))]
    simp [List.getD_eq_getElem?_getD, List.getElem?_eq_getElem hil]) 9 Tryz.underlying9
set_option maxRecDepth 10000 in
theorem sameMoves0 (w : World) (a b : Option Addr) (c k : Nat) : Calls Tryz.prog 79 #[.slice a 0 c, .slice b 0 k] w (SamePost w (.bool true)) := by
 go_enter Tryz.func79, Tryz.ntmps79
 go_wp2_with fail
 go_loopw [5] (fun s wr => s = .int .i64 0 ∧ wr = w) (fun _ _ => 0)
 case atStart => exact ⟨rfl, rfl⟩
 case round =>
  obtain ⟨rfl, rfl⟩ := hrel
  go_wp2_with fail
  go_ret
  exact ⟨rfl, rfl⟩
set_option maxRecDepth 10000 in
theorem sameLives0 (w : World) (a b : Option Addr) (c k : Nat) : Calls Tryz.prog 80 #[.slice a 0 c, .slice b 0 k] w (SamePost w (.bool true)) := by
 go_enter Tryz.func80, Tryz.ntmps80
 go_wp2_with fail
 go_loopw [5] (fun s wr => s = .int .i64 0 ∧ wr = w) (fun _ _ => 0)
 case atStart => exact ⟨rfl, rfl⟩
 case round =>
  obtain ⟨rfl, rfl⟩ := hrel
  go_wp2_with fail
  go_ret
  exact ⟨rfl, rfl⟩
set_option maxRecDepth 10000 in
theorem sameDirty0 (w : World) (a b : Option Addr) (c k : Nat) : Calls Tryz.prog 81 #[.slice a 0 c, .slice b 0 k] w (SamePost w (.bool true)) := by
 go_enter Tryz.func81, Tryz.ntmps81
 go_wp2_with fail
 go_loopw [5] (fun s wr => s = .int .i64 0 ∧ wr = w) (fun _ _ => 0)
 case atStart => exact ⟨rfl, rfl⟩
 case round =>
  obtain ⟨rfl, rfl⟩ := hrel
  go_wp2_with fail
  go_ret
  exact ⟨rfl, rfl⟩
set_option maxRecDepth 10000 in
theorem sameOpens0 (w : World) (a b : Option Addr) (c k : Nat) : Calls Tryz.prog 82 #[.slice a 0 c, .slice b 0 k] w (SamePost w (.bool true)) := by
 go_enter Tryz.func82, Tryz.ntmps82
 go_wp2_with fail
 go_loopw [5] (fun s wr => s = .int .i64 0 ∧ wr = w) (fun _ _ => 0)
 case atStart => exact ⟨rfl, rfl⟩
 case round =>
  obtain ⟨rfl, rfl⟩ := hrel
  go_wp2_with fail
  go_ret
  exact ⟨rfl, rfl⟩
end Go.Proofs.YtojkggppcmdepaaGreat

namespace Go.Proofs.YtojkggppcmdepaaGreat
open Go.RowKit Go.Wh Go.Maps

def Drewn (w w' : World) : Prop := ∃ q, w' = w.drewN q
theorem Drewn.refl (w : World) : Drewn w w := ⟨0, rfl⟩
theorem Drewn.drewN {w w' : World} (h : Drewn w w') (n : Nat) : Drewn w (w'.drewN n) := by
 obtain ⟨q, rfl⟩ := h
 exact ⟨q + n, World.drewN_drewN ..⟩
theorem Drewn.still {w w' : World} (h : Drewn w w') : Still w w' := by
 obtain ⟨q, rfl⟩ := h
 exact (Still.refl w).drewN q
def QtPost (w : World) (v : Value) (e : Ending) (w' : World) : Prop := e = .returned v ∧ Drewn w w'
set_option maxHeartbeats 1000000 in
set_option maxRecDepth 10000 in
theorem same_mv {w : World} {P Q : Nat → Prop} (a b : Value) (m : Nat) (l : List PMv) (ha : Sl w P 4 a m (l.flatMap mvC)) (hb : Sl w Q 4 b m (l.flatMap mvC)) (hl : l.length = m) (hm : m ≤ 100000) :
 Calls Tryz.prog 79 #[a, b] w (QtPost w (.bool true)) := by
 have H := Lib.hid (And.intro ha (And.intro hb (And.intro hl hm)))
 obtain ⟨xa, xc, rfl⟩ := ha.form
 obtain ⟨ya, yc, rfl⟩ := hb.form
 clear ha hb hl hm
 go_enter Tryz.func79, Tryz.ntmps79
 go_wp2_with fail
 go_loopw [5] (fun s wr => ∃ k : Nat, s = .int .i64 k ∧ k ≤ m ∧ Drewn w wr) (fun s _ => m - (intOf s).toNat)
 case atStart => exact ⟨0, rfl, Nat.zero_le _, Drewn.refl _⟩
 case round =>
  obtain ⟨k, rfl, hk, hdr⟩ := hrel
  have hst := hdr.still
  by_cases hi : k < m
  · obtain ⟨x, hx⟩ : ∃ x, l[k]? = some x := ⟨_, List.getElem?_eq_getElem (by have := H.out.2.2.1; omega)⟩
    obtain ⟨g, o, c, hg, -, -, hcs⟩ := (H.out.1.still hst).pos (by omega)
    cases hg
    obtain ⟨g2, o2, c2, hg2, -, -, hcs2⟩ := (H.out.2.1.still hst).pos (by omega)
    cases hg2
    have hfc : ∀ j, j < 4 → (l.flatMap mvC)[k * 4 + j]? = (mvC x)[j]? := fun j hj => flat_get (sz := 4) (fun _ => rfl) l k j x hx hj
    have c0 : wr.cell? ⟨g, o + k * 4, none⟩ = some (.int .i64 x.fp) := hcs (k * 4) _ (hfc 0 (by omega))
    have e0 : wr.cell? ⟨g2, o2 + k * 4, none⟩ = some (.int .i64 x.fp) := hcs2 (k * 4) _ (hfc 0 (by omega))
    have c1 : wr.cell? ⟨g, o + k * 4 + 1, none⟩ = some (.int .i64 x.fc) := by rw [Nat.add_assoc]; exact hcs (k * 4 + 1) _ (hfc 1 (by omega))
    have e1 : wr.cell? ⟨g2, o2 + k * 4 + 1, none⟩ = some (.int .i64 x.fc) := by rw [Nat.add_assoc]; exact hcs2 (k * 4 + 1) _ (hfc 1 (by omega))
    have c2 : wr.cell? ⟨g, o + k * 4 + 2, none⟩ = some (.int .i64 x.tp) := by rw [Nat.add_assoc]; exact hcs (k * 4 + 2) _ (hfc 2 (by omega))
    have e2 : wr.cell? ⟨g2, o2 + k * 4 + 2, none⟩ = some (.int .i64 x.tp) := by rw [Nat.add_assoc]; exact hcs2 (k * 4 + 2) _ (hfc 2 (by omega))
    have c3 : wr.cell? ⟨g, o + k * 4 + 3, none⟩ = some (.int .i64 x.tc) := by rw [Nat.add_assoc]; exact hcs (k * 4 + 3) _ (hfc 3 (by omega))
    have e3 : wr.cell? ⟨g2, o2 + k * 4 + 3, none⟩ = some (.int .i64 x.tc) := by rw [Nat.add_assoc]; exact hcs2 (k * 4 + 3) _ (hfc 3 (by omega))
    have b1 : decide ((k : Int) < (m : Int)) = true := by simp; omega
    have b2 : decide (k < m) = true := by simp; omega
    have b3 : (0 : Int) ≤ (k : Int) := by omega
    have b4 : (k : Int) < (m : Int) := by omega
    have u9 : IntKind.i64.wrap ((k : Int) + 1) = (k : Int) + 1 := IntWalk.i64_in _ (by have := H.out.2.2.2; omega)
    have HT := Lib.hid hdr
    clear hcs hcs2 hx hfc hst hdr
    go_wp2_with fail
    go_quiet (fail)
    go_wp2_with fail
    go_roundw
    case rel => exact ⟨k + 1, by go_num, by omega, HT.out.drewN _⟩
    case measure => simp [intOf]; omega
  · have hke : k = m := by omega
    subst hke
    have b1 : decide ((k : Int) < (k : Int)) = false := by simp
    have F := Lib.hid (show QtPost w (.bool true) (.returned (.bool true)) wr from ⟨rfl, hdr⟩)
    clear hst hdr
    go_wp2_with fail
    go_ret
    exact F.out
set_option maxHeartbeats 1000000 in
set_option maxRecDepth 10000 in
theorem same_lv {w : World} {P Q : Nat → Prop} (a b : Value) (m : Nat) (l : List PLv) (ha : Sl w P 4 a m (l.flatMap lvC)) (hb : Sl w Q 4 b m (l.flatMap lvC)) (hl : l.length = m) (hm : m ≤ 100000) :
 Calls Tryz.prog 80 #[a, b] w (QtPost w (.bool true)) := by
 have H := Lib.hid (And.intro ha (And.intro hb (And.intro hl hm)))
 obtain ⟨xa, xc, rfl⟩ := ha.form
 obtain ⟨ya, yc, rfl⟩ := hb.form
 clear ha hb hl hm
 go_enter Tryz.func80, Tryz.ntmps80
 go_wp2_with fail
 go_loopw [5] (fun s wr => ∃ k : Nat, s = .int .i64 k ∧ k ≤ m ∧ Drewn w wr) (fun s _ => m - (intOf s).toNat)
 case atStart => exact ⟨0, rfl, Nat.zero_le _, Drewn.refl _⟩
 case round =>
  obtain ⟨k, rfl, hk, hdr⟩ := hrel
  have hst := hdr.still
  by_cases hi : k < m
  · obtain ⟨x, hx⟩ : ∃ x, l[k]? = some x := ⟨_, List.getElem?_eq_getElem (by have := H.out.2.2.1; omega)⟩
    obtain ⟨g, o, c, hg, -, -, hcs⟩ := (H.out.1.still hst).pos (by omega)
    cases hg
    obtain ⟨g2, o2, c2, hg2, -, -, hcs2⟩ := (H.out.2.1.still hst).pos (by omega)
    cases hg2
    have hfc : ∀ j, j < 4 → (l.flatMap lvC)[k * 4 + j]? = (lvC x)[j]? := fun j hj => flat_get (sz := 4) (fun _ => rfl) l k j x hx hj
    have c0 : wr.cell? ⟨g, o + k * 4, none⟩ = some (.int .i64 x.txn) := hcs (k * 4) _ (hfc 0 (by omega))
    have e0 : wr.cell? ⟨g2, o2 + k * 4, none⟩ = some (.int .i64 x.txn) := hcs2 (k * 4) _ (hfc 0 (by omega))
    have c1 : wr.cell? ⟨g, o + k * 4 + 1, none⟩ = some (.int .i64 x.last) := by rw [Nat.add_assoc]; exact hcs (k * 4 + 1) _ (hfc 1 (by omega))
    have e1 : wr.cell? ⟨g2, o2 + k * 4 + 1, none⟩ = some (.int .i64 x.last) := by rw [Nat.add_assoc]; exact hcs2 (k * 4 + 1) _ (hfc 1 (by omega))
    have c2 : wr.cell? ⟨g, o + k * 4 + 2, none⟩ = some (.int .i64 x.next) := by rw [Nat.add_assoc]; exact hcs (k * 4 + 2) _ (hfc 2 (by omega))
    have e2 : wr.cell? ⟨g2, o2 + k * 4 + 2, none⟩ = some (.int .i64 x.next) := by rw [Nat.add_assoc]; exact hcs2 (k * 4 + 2) _ (hfc 2 (by omega))
    have c3 : wr.cell? ⟨g, o + k * 4 + 3, none⟩ = some (.bool x.commit) := by rw [Nat.add_assoc]; exact hcs (k * 4 + 3) _ (hfc 3 (by omega))
    have e3 : wr.cell? ⟨g2, o2 + k * 4 + 3, none⟩ = some (.bool x.commit) := by rw [Nat.add_assoc]; exact hcs2 (k * 4 + 3) _ (hfc 3 (by omega))
    have b1 : decide ((k : Int) < (m : Int)) = true := by simp; omega
    have b2 : decide (k < m) = true := by simp; omega
    have b3 : (0 : Int) ≤ (k : Int) := by omega
    have b4 : (k : Int) < (m : Int) := by omega
    have u9 : IntKind.i64.wrap ((k : Int) + 1) = (k : Int) + 1 := IntWalk.i64_in _ (by have := H.out.2.2.2; omega)
    have HT := Lib.hid hdr
    clear hcs hcs2 hx hfc hst hdr
    go_wp2_with fail
    go_quiet (fail)
    go_wp2_with fail
    go_roundw
    case rel => exact ⟨k + 1, by go_num, by omega, HT.out.drewN _⟩
    case measure => simp [intOf]; omega
  · have hke : k = m := by omega
    subst hke
    have b1 : decide ((k : Int) < (k : Int)) = false := by simp
    have F := Lib.hid (show QtPost w (.bool true) (.returned (.bool true)) wr from ⟨rfl, hdr⟩)
    clear hst hdr
    go_wp2_with fail
    go_ret
    exact F.out
set_option maxHeartbeats 1000000 in
set_option maxRecDepth 10000 in
theorem same_dt {w : World} {P Q : Nat → Prop} (a b : Value) (m : Nat) (l : List PDt) (ha : Sl w P 2 a m (l.flatMap dtC)) (hb : Sl w Q 2 b m (l.flatMap dtC)) (hl : l.length = m) (hm : m ≤ 100000) :
 Calls Tryz.prog 81 #[a, b] w (QtPost w (.bool true)) := by
 have H := Lib.hid (And.intro ha (And.intro hb (And.intro hl hm)))
 obtain ⟨xa, xc, rfl⟩ := ha.form
 obtain ⟨ya, yc, rfl⟩ := hb.form
 clear ha hb hl hm
 go_enter Tryz.func81, Tryz.ntmps81
 go_wp2_with fail
 go_loopw [5] (fun s wr => ∃ k : Nat, s = .int .i64 k ∧ k ≤ m ∧ Drewn w wr) (fun s _ => m - (intOf s).toNat)
 case atStart => exact ⟨0, rfl, Nat.zero_le _, Drewn.refl _⟩
 case round =>
  obtain ⟨k, rfl, hk, hdr⟩ := hrel
  have hst := hdr.still
  by_cases hi : k < m
  · obtain ⟨x, hx⟩ : ∃ x, l[k]? = some x := ⟨_, List.getElem?_eq_getElem (by have := H.out.2.2.1; omega)⟩
    obtain ⟨g, o, c, hg, -, -, hcs⟩ := (H.out.1.still hst).pos (by omega)
    cases hg
    obtain ⟨g2, o2, c2, hg2, -, -, hcs2⟩ := (H.out.2.1.still hst).pos (by omega)
    cases hg2
    have hfc : ∀ j, j < 2 → (l.flatMap dtC)[k * 2 + j]? = (dtC x)[j]? := fun j hj => flat_get (sz := 2) (fun _ => rfl) l k j x hx hj
    have c0 : wr.cell? ⟨g, o + k * 2, none⟩ = some (.int .i64 x.page) := hcs (k * 2) _ (hfc 0 (by omega))
    have e0 : wr.cell? ⟨g2, o2 + k * 2, none⟩ = some (.int .i64 x.page) := hcs2 (k * 2) _ (hfc 0 (by omega))
    have c1 : wr.cell? ⟨g, o + k * 2 + 1, none⟩ = some (.int .i64 x.rc) := by rw [Nat.add_assoc]; exact hcs (k * 2 + 1) _ (hfc 1 (by omega))
    have e1 : wr.cell? ⟨g2, o2 + k * 2 + 1, none⟩ = some (.int .i64 x.rc) := by rw [Nat.add_assoc]; exact hcs2 (k * 2 + 1) _ (hfc 1 (by omega))
    have b1 : decide ((k : Int) < (m : Int)) = true := by simp; omega
    have b2 : decide (k < m) = true := by simp; omega
    have b3 : (0 : Int) ≤ (k : Int) := by omega
    have b4 : (k : Int) < (m : Int) := by omega
    have u9 : IntKind.i64.wrap ((k : Int) + 1) = (k : Int) + 1 := IntWalk.i64_in _ (by have := H.out.2.2.2; omega)
    have HT := Lib.hid hdr
    clear hcs hcs2 hx hfc hst hdr
    go_wp2_with fail
    go_quiet (fail)
    go_wp2_with fail
    go_roundw
    case rel => exact ⟨k + 1, by go_num, by omega, HT.out.drewN _⟩
    case measure => simp [intOf]; omega
  · have hke : k = m := by omega
    subst hke
    have b1 : decide ((k : Int) < (k : Int)) = false := by simp
    have F := Lib.hid (show QtPost w (.bool true) (.returned (.bool true)) wr from ⟨rfl, hdr⟩)
    clear hst hdr
    go_wp2_with fail
    go_ret
    exact F.out
set_option maxHeartbeats 1000000 in
set_option maxRecDepth 10000 in
theorem same_op {w : World} {P Q : Nat → Prop} (a b : Value) (m : Nat) (l : List POp) (ha : OpSl w P a m l) (hb : OpSl w Q b m l) (hl : l.length = m) (hm : m ≤ 100000) (hmv : ∀ x ∈ l, x.moves.length ≤ 100000) :
 Calls Tryz.prog 82 #[a, b] w (QtPost w (.bool true)) := by
 obtain ⟨mvs, ha1, ha, ha3⟩ := ha
 obtain ⟨nvs, hb1, hb, hb3⟩ := hb
 have H := Lib.hid (And.intro ha (And.intro hb (And.intro hl hm)))
 have HMS := Lib.hid (And.intro ha1 (And.intro ha3 (And.intro hb1 (And.intro hb3 hmv))))
 obtain ⟨xa, xc, rfl⟩ := ha.form
 obtain ⟨ya, yc, rfl⟩ := hb.form
 clear ha hb hl hm ha1 ha3 hb1 hb3 hmv
 go_enter Tryz.func82, Tryz.ntmps82
 go_wp2_with fail
 go_loopw [5] (fun s wr => ∃ k : Nat, s = .int .i64 k ∧ k ≤ m ∧ Drewn w wr) (fun s _ => m - (intOf s).toNat)
 case atStart => exact ⟨0, rfl, Nat.zero_le _, Drewn.refl _⟩
 case round =>
  obtain ⟨k, rfl, hk, hdr⟩ := hrel
  have hst := hdr.still
  by_cases hi : k < m
  · obtain ⟨x, hx⟩ : ∃ x, l[k]? = some x := ⟨_, List.getElem?_eq_getElem (by have := H.out.2.2.1; omega)⟩
    obtain ⟨mv, hmx⟩ : ∃ mv, mvs[k]? = some mv := ⟨_, List.getElem?_eq_getElem (by have := H.out.2.2.1; have := HMS.out.1; omega)⟩
    obtain ⟨nv, hnx⟩ : ∃ nv, nvs[k]? = some nv := ⟨_, List.getElem?_eq_getElem (by have := H.out.2.2.1; have := HMS.out.2.2.1; omega)⟩
    have HMV := Lib.hid ((HMS.out.2.1 k x mv hx hmx).still hst)
    have HNV := Lib.hid ((HMS.out.2.2.2.1 k x nv hx hnx).still hst)
    have HML := Lib.hid (HMS.out.2.2.2.2 x (List.mem_of_getElem? hx))
    obtain ⟨ma, mc, rfl⟩ := HMV.out.form
    obtain ⟨na, nc, rfl⟩ := HNV.out.form
    obtain ⟨g, o, c, hg, -, -, hcs⟩ := (H.out.1.still hst).pos (by omega)
    cases hg
    obtain ⟨g2, o2, c2, hg2, -, -, hcs2⟩ := (H.out.2.1.still hst).pos (by omega)
    cases hg2
    have hfc : ∀ j, j < 3 → ((l.zip mvs).flatMap opC)[k * 3 + j]? = (opC (x, .slice ma x.moves.length mc))[j]? := fun j hj => flat_get (sz := 3) (fun _ => rfl) (l.zip mvs) k j (x, _) (by rw [List.getElem?_zip_eq_some]; exact ⟨hx, hmx⟩) hj
    have hfd : ∀ j, j < 3 → ((l.zip nvs).flatMap opC)[k * 3 + j]? = (opC (x, .slice na x.moves.length nc))[j]? := fun j hj => flat_get (sz := 3) (fun _ => rfl) (l.zip nvs) k j (x, _) (by rw [List.getElem?_zip_eq_some]; exact ⟨hx, hnx⟩) hj
    have c0 : wr.cell? ⟨g, o + k * 3, none⟩ = some (.int .i64 x.unit) := hcs (k * 3) _ (hfc 0 (by omega))
    have e0 : wr.cell? ⟨g2, o2 + k * 3, none⟩ = some (.int .i64 x.unit) := hcs2 (k * 3) _ (hfd 0 (by omega))
    have c1 : wr.cell? ⟨g, o + k * 3 + 1, none⟩ = some (.slice ma x.moves.length mc) := by rw [Nat.add_assoc]; exact hcs (k * 3 + 1) _ (hfc 1 (by omega))
    have e1 : wr.cell? ⟨g2, o2 + k * 3 + 1, none⟩ = some (.slice na x.moves.length nc) := by rw [Nat.add_assoc]; exact hcs2 (k * 3 + 1) _ (hfd 1 (by omega))
    have c2 : wr.cell? ⟨g, o + k * 3 + 2, none⟩ = some (.int .i64 x.done) := by rw [Nat.add_assoc]; exact hcs (k * 3 + 2) _ (hfc 2 (by omega))
    have e2 : wr.cell? ⟨g2, o2 + k * 3 + 2, none⟩ = some (.int .i64 x.done) := by rw [Nat.add_assoc]; exact hcs2 (k * 3 + 2) _ (hfd 2 (by omega))
    have b1 : decide ((k : Int) < (m : Int)) = true := by simp; omega
    have b2 : decide (k < m) = true := by simp; omega
    have b3 : (0 : Int) ≤ (k : Int) := by omega
    have b4 : (k : Int) < (m : Int) := by omega
    have u9 : IntKind.i64.wrap ((k : Int) + 1) = (k : Int) + 1 := IntWalk.i64_in _ (by have := H.out.2.2.2; omega)
    have HSM := Lib.hid (fun q => same_mv (w := wr.drewN q) (.slice ma x.moves.length mc) (.slice na x.moves.length nc) x.moves.length x.moves (HMV.out.still ((Still.refl _).drewN q)) (HNV.out.still ((Still.refl _).drewN q)) rfl HML.out)
    have HT := Lib.hid hdr
    clear hcs hcs2 hx hfc hfd hst hdr hmx hnx
    go_wp2_with fail
    go_quiet (first | (go_at_call 79; exact Calls.quiet_of (HSM.out _)))
    go_wp2_with fail
    go_roundw
    case rel => exact ⟨k + 1, by go_num, by omega, HT.out.drewN _⟩
    case measure => simp [intOf]; omega
  · have hke : k = m := by omega
    subst hke
    have b1 : decide ((k : Int) < (k : Int)) = false := by simp
    have F := Lib.hid (show QtPost w (.bool true) (.returned (.bool true)) wr from ⟨rfl, hdr⟩)
    clear hst hdr
    go_wp2_with fail
    go_ret
    exact F.out
end Go.Proofs.YtojkggppcmdepaaGreat
