/- Rows of entries that came in: what lies in memory. Conditions: they can be read as data. TrailScans answers true. Conditions: entries and bytes that lie in memory, two numbers. TrailScans: for every input the law returns true and its arguments read as before. No conditions beyond the row's. -/
import Derived.Test.YtojkggppcmdepaaGreatTrSc
import Derived.Test.YtojkggppcmdepaaGreatRow
import Derived.Deep.Slices
import Derived.Deep.Fields
import Derived.ChangeSame
import Derived.Test.YtojkggppcmdepaaGreatCdUm
import Derived.Test.YtojkggppcmdepaaGreatCdM
import Derived.Test.YtojkggppcmdepaaGreatSameN
import Derived.Test.YtojkggppcmdepaaGreatTrBg
import Derived.Test.YtojkggppcmdepaaGreatRw
namespace Go.Proofs.YtojkggppcmdepaaGreat
open Go.RowKit Go.Wh Go.ChangeShapes Go.WideShapes Go.Deep

theorem choose_row {α : Type} {P : Nat → α → Prop} {m : Nat} (hm : 0 < m) (h : ∀ i, i < m → ∃ a, P i a) : ∃ A : Nat → α, ∀ i, i < m → P i (A i) := by
  obtain ⟨a0, -⟩ := h 0 hm
  have key : ∀ i, ∃ a, i < m → P i a := fun i => by
    by_cases hi : i < m
    · obtain ⟨a, ha⟩ := h i hi
      exact ⟨a, fun _ => ha⟩
    · exact ⟨a0, fun e => absurd e hi⟩
  exact ⟨fun i => (key i).choose, fun i hi => (key i).choose_spec hi⟩
section
variable {H : Type} {enc : TypeId × Value → H}
/-- A slice that is read as data, its elements of one kind. -/
theorem open_sl {P : Program} {W : World} {t e : TypeId} {sz : Nat} {fuel : Nat} {cs : List Value} {x : DataW H × List MemPlace} (ht : P.underlying t = some (.slice e)) (hsz : P.cellsOf e = sz) (hs0 : 0 < sz) (h : DataW.trod enc P W 0 (fun _ => true) true fuel t cs = some x)
    {α : Type} (f : α → List Value) (hfl : ∀ a, (f a).length = sz) (R : α → Prop) (hf : ∀ n cs' y, cs'.length = sz → DataW.trod enc P W 0 (fun _ => true) true n e cs' = some y → ∃ a, cs' = f a ∧ R a) :
    ∃ (dv : Value) (m : Nat) (l : List α), cs = [dv] ∧ Sl W (fun g => g < W.heap.size) sz dv m (l.flatMap f) ∧ l.length = m ∧ (∀ a ∈ l, R a) ∧ Cap m dv := by
  rcases open_slice ht h with ⟨rfl, -⟩ | ⟨a, len, cap, m, n, D, Pl, rfl, -, hle, -, hm, -, hcell⟩
  · exact ⟨_, 0, [], rfl, Sl.nil, rfl, (fun a ha => by cases ha), ⟨_, _, rfl, Nat.le_refl _⟩⟩
  simp only [if_true] at hm
  subst hm
  rcases Nat.eq_zero_or_pos len with h0 | h0
  · subst h0
    exact ⟨_, 0, [], rfl, Sl.empty (fun e => by cases e), rfl, (fun a ha => by cases ha), ⟨_, _, rfl, Nat.zero_le _⟩⟩
  obtain ⟨b, off, spot⟩ := a
  have hspot : spot = none := by
    obtain ⟨cs0, hc0, _⟩ := hcell 0 (by omega)
    rw [hsz] at hc0
    obtain ⟨_, hlen0, hat0⟩ := World.cells?_some hc0
    have g := hat0 0 (by omega)
    rw [List.getElem?_eq_getElem (by omega)] at g
    have := World.cell?_spot g
    simpa [Addr.add] using this
  subst hspot
  have hadd : ∀ j, (⟨b, off, none⟩ : Addr).add j = ⟨b, off + j, none⟩ := fun j => by unfold Addr.add; split <;> simp_all
  have hel : ∀ i, i < len → ∃ a : α, (∀ r, r < sz → W.cell? ⟨b, off + i * sz + r, none⟩ = (f a)[r]?) ∧ R a := fun i hi => by
    obtain ⟨cs', hc, htr⟩ := hcell i (by omega)
    rw [hsz] at hc
    obtain ⟨_, hlen, hat⟩ := World.cells?_some hc
    obtain ⟨a, rfl, hr⟩ := hf n cs' _ hlen htr
    refine ⟨a, fun r hr => ?_, hr⟩
    have := hat r (by omega)
    rw [hadd] at this
    rw [← this]
    unfold Addr.add
    split <;> simp_all
  obtain ⟨A, hA⟩ := choose_row h0 hel
  have hb : b < W.heap.size := by
    have h1 := (hA 0 h0).1 0 hs0
    rw [List.getElem?_eq_getElem (by rw [hfl]; exact hs0)] at h1
    exact lt_of_cell h1
  refine ⟨_, len, (List.range len).map A, rfl, ⟨by rw [flat_len hfl]; simp, .inr ⟨b, off, _, rfl, fun _ => ⟨hb, hb⟩, fun j u hj => ?_⟩⟩, by simp, fun a ha => ?_, ⟨_, _, rfl, hle⟩⟩
  · have hjl := (List.getElem?_eq_some_iff.1 hj).1
    rw [flat_len hfl] at hjl
    simp only [List.length_map, List.length_range] at hjl
    have hq : j / sz < len := Nat.div_lt_of_lt_mul (by rw [Nat.mul_comm]; exact hjl)
    have hr : j % sz < sz := Nat.mod_lt _ hs0
    have hjd : j / sz * sz + j % sz = j := by rw [Nat.mul_comm]; exact Nat.div_add_mod j sz
    have h1 := (hA (j / sz) hq).1 (j % sz) hr
    rw [Nat.add_assoc, hjd] at h1
    rw [h1, ← hj]
    have h2 := flat_get hfl ((List.range len).map A) (j / sz) (j % sz) (A (j / sz)) (by rw [List.getElem?_map, List.getElem?_range hq]; rfl) hr
    rw [hjd] at h2
    exact h2.symm
  · obtain ⟨i, hi, rfl⟩ := List.mem_map.1 ha
    exact (hA i (List.mem_range.1 hi)).2
theorem flat_bc : ∀ l : List Int, l.flatMap (fun z => [Value.int .u8 z]) = bc l
  | [] => rfl
  | a :: l => by
    rw [List.flatMap_cons, flat_bc l]
    rfl
theorem k_int : Tryz.prog.cellsOf 3 = 1 := by kernel_rfl
theorem k_bool : Tryz.prog.cellsOf 4 = 1 := by kernel_rfl
theorem k_u8 : Tryz.prog.cellsOf 5 = 1 := by kernel_rfl
theorem k_rid : Tryz.prog.cellsOf 28 = 2 := by kernel_rfl
theorem k_mv : Tryz.prog.cellsOf 119 = 4 := by kernel_rfl
theorem k_lv : Tryz.prog.cellsOf 108 = 4 := by kernel_rfl
theorem k_dt : Tryz.prog.cellsOf 110 = 2 := by kernel_rfl
theorem k_op : Tryz.prog.cellsOf 112 = 3 := by kernel_rfl
theorem k_en : Tryz.prog.cellsOf 34 = 16 := by kernel_rfl
theorem k_s8 : Tryz.prog.cellsOf 23 = 1 := by kernel_rfl
theorem k_smv : Tryz.prog.cellsOf 29 = 1 := by kernel_rfl
theorem k_slv : Tryz.prog.cellsOf 30 = 1 := by kernel_rfl
theorem k_sdt : Tryz.prog.cellsOf 31 = 1 := by kernel_rfl
theorem k_sop : Tryz.prog.cellsOf 32 = 1 := by kernel_rfl
variable {W : World} {fuel : Nat} {cs : List Value} {x : DataW H × List MemPlace}
set_option maxRecDepth 100000 in
theorem open_bytes (h : DataW.trod enc Tryz.prog W 0 (fun _ => true) true fuel 23 cs = some x) : ∃ (dv : Value) (l : List Int), cs = [dv] ∧ Sl W (fun g => g < W.heap.size) 1 dv l.length (bc l) ∧ Byt l ∧ Cap l.length dv := by
  obtain ⟨dv, m, l, h1, h2, h3, h4, h5⟩ := open_sl (α := Int) Tryz.underlying23 k_u8 (by decide) h (fun z => [.int .u8 z]) (fun _ => rfl) (fun z => 0 ≤ z ∧ z ≤ 255) (fun n cs' y _ ht => by
    obtain ⟨z, e, _, hw⟩ := DataW.trod_int Tryz.underlying5 ht
    have := byte_wf hw
    exact ⟨z, e, by omega, by omega⟩)
  rw [flat_bc] at h2
  subst h3
  exact ⟨dv, l, h1, h2, h4, h5⟩
set_option maxRecDepth 100000 in
theorem open_rid (hlen : cs.length = 2) (h : DataW.trod enc Tryz.prog W 0 (fun _ => true) true fuel 28 cs = some x) : ∃ p c, cs = [.int .i64 p, .int .i64 c] := by
  obtain ⟨xs, n', _, _, _, hxl, hfld⟩ := DataW.trod_struct Tryz.underlying28 h
  match cs, hlen with
  | [v0, v1], _ =>
    have hxl' : xs.length = 2 := hxl
    match xs, hxl' with
    | [y0, y1], _ =>
      have g0 := hfld 0 ⟨"Page", 3, 0, false, "", "", 0⟩ rfl
      have g1 := hfld 1 ⟨"Cell", 3, 1, false, "", "", 8⟩ rfl
      simp only [k_int, List.drop_zero, List.take_succ_cons, List.take_zero, List.getElem?_cons_zero] at g0
      simp only [k_int, List.drop_succ_cons, List.drop_zero, List.take_succ_cons, List.take_zero, List.getElem?_cons_succ, List.getElem?_cons_zero] at g1
      obtain ⟨c0, e0, _, _⟩ := DataW.trod_int Tryz.underlying3 g0
      have e0 := (List.cons.inj e0).1
      subst e0
      obtain ⟨c1, e1, _, _⟩ := DataW.trod_int Tryz.underlying3 g1
      have e1 := (List.cons.inj e1).1
      subst e1
      exact ⟨c0, c1, rfl⟩
set_option maxRecDepth 100000 in
theorem open_mv (hlen : cs.length = 4) (h : DataW.trod enc Tryz.prog W 0 (fun _ => true) true fuel 119 cs = some x) : ∃ m : PMv, cs = mvC m ∧ True := by
  obtain ⟨xs, n', _, _, _, hxl, hfld⟩ := DataW.trod_struct Tryz.underlying119 h
  match cs, hlen with
  | [v0, v1, v2, v3], _ =>
    have hxl' : xs.length = 2 := hxl
    match xs, hxl' with
    | [y0, y1], _ =>
      have g0 := hfld 0 ⟨"From", 28, 0, false, "", "", 0⟩ rfl
      have g1 := hfld 1 ⟨"To", 28, 2, false, "", "", 16⟩ rfl
      simp only [k_rid, List.drop_zero, List.take_succ_cons, List.take_zero, List.getElem?_cons_zero] at g0
      simp only [k_rid, List.drop_succ_cons, List.drop_zero, List.take_succ_cons, List.take_zero, List.getElem?_cons_succ, List.getElem?_cons_zero] at g1
      obtain ⟨p0, c0, e0⟩ := open_rid rfl g0
      have e0a := (List.cons.inj e0).1
      have e0b := (List.cons.inj (List.cons.inj e0).2).1
      subst e0a e0b
      obtain ⟨p2, c2, e2⟩ := open_rid rfl g1
      have e2a := (List.cons.inj e2).1
      have e2b := (List.cons.inj (List.cons.inj e2).2).1
      subst e2a e2b
      exact ⟨⟨p0, c0, p2, c2⟩, rfl, trivial⟩
set_option maxRecDepth 100000 in
theorem open_lv (hlen : cs.length = 4) (h : DataW.trod enc Tryz.prog W 0 (fun _ => true) true fuel 108 cs = some x) : ∃ m : PLv, cs = lvC m ∧ True := by
  obtain ⟨xs, n', _, _, _, hxl, hfld⟩ := DataW.trod_struct Tryz.underlying108 h
  match cs, hlen with
  | [v0, v1, v2, v3], _ =>
    have hxl' : xs.length = 4 := hxl
    match xs, hxl' with
    | [y0, y1, y2, y3], _ =>
      have g0 := hfld 0 ⟨"Txn", 3, 0, false, "", "", 0⟩ rfl
      have g1 := hfld 1 ⟨"Last", 3, 1, false, "", "", 8⟩ rfl
      have g2 := hfld 2 ⟨"Next", 3, 2, false, "", "", 16⟩ rfl
      have g3 := hfld 3 ⟨"Commit", 4, 3, false, "", "", 24⟩ rfl
      simp only [k_int, List.drop_zero, List.take_succ_cons, List.take_zero, List.getElem?_cons_zero] at g0
      simp only [k_int, List.drop_succ_cons, List.drop_zero, List.take_succ_cons, List.take_zero, List.getElem?_cons_succ, List.getElem?_cons_zero] at g1
      simp only [k_int, List.drop_succ_cons, List.drop_zero, List.take_succ_cons, List.take_zero, List.getElem?_cons_succ, List.getElem?_cons_zero] at g2
      simp only [k_bool, List.drop_succ_cons, List.drop_zero, List.take_succ_cons, List.take_zero, List.getElem?_cons_succ, List.getElem?_cons_zero] at g3
      obtain ⟨c0, e0, _, _⟩ := DataW.trod_int Tryz.underlying3 g0
      have e0 := (List.cons.inj e0).1
      subst e0
      obtain ⟨c1, e1, _, _⟩ := DataW.trod_int Tryz.underlying3 g1
      have e1 := (List.cons.inj e1).1
      subst e1
      obtain ⟨c2, e2, _, _⟩ := DataW.trod_int Tryz.underlying3 g2
      have e2 := (List.cons.inj e2).1
      subst e2
      obtain ⟨c3, e3, _⟩ := DataW.trod_bool Tryz.underlying4 g3
      have e3 := (List.cons.inj e3).1
      subst e3
      exact ⟨⟨c0, c1, c2, c3⟩, rfl, trivial⟩
set_option maxRecDepth 100000 in
theorem open_dt (hlen : cs.length = 2) (h : DataW.trod enc Tryz.prog W 0 (fun _ => true) true fuel 110 cs = some x) : ∃ m : PDt, cs = dtC m ∧ True := by
  obtain ⟨xs, n', _, _, _, hxl, hfld⟩ := DataW.trod_struct Tryz.underlying110 h
  match cs, hlen with
  | [v0, v1], _ =>
    have hxl' : xs.length = 2 := hxl
    match xs, hxl' with
    | [y0, y1], _ =>
      have g0 := hfld 0 ⟨"Page", 3, 0, false, "", "", 0⟩ rfl
      have g1 := hfld 1 ⟨"Rec", 3, 1, false, "", "", 8⟩ rfl
      simp only [k_int, List.drop_zero, List.take_succ_cons, List.take_zero, List.getElem?_cons_zero] at g0
      simp only [k_int, List.drop_succ_cons, List.drop_zero, List.take_succ_cons, List.take_zero, List.getElem?_cons_succ, List.getElem?_cons_zero] at g1
      obtain ⟨c0, e0, _, _⟩ := DataW.trod_int Tryz.underlying3 g0
      have e0 := (List.cons.inj e0).1
      subst e0
      obtain ⟨c1, e1, _, _⟩ := DataW.trod_int Tryz.underlying3 g1
      have e1 := (List.cons.inj e1).1
      subst e1
      exact ⟨⟨c0, c1⟩, rfl, trivial⟩
set_option maxRecDepth 100000 in
theorem open_moves (h : DataW.trod enc Tryz.prog W 0 (fun _ => true) true fuel 29 cs = some x) : ∃ (dv : Value) (l : List PMv), cs = [dv] ∧ Sl W (fun g => g < W.heap.size) 4 dv l.length (l.flatMap mvC) := by
  obtain ⟨dv, m, l, h1, h2, h3, h4, h5⟩ := open_sl Tryz.underlying29 k_mv (by decide) h mvC (fun _ => rfl) (fun _ => True) (fun n cs' y hl ht => open_mv hl ht)
  subst h3
  exact ⟨dv, l, h1, h2⟩
set_option maxRecDepth 100000 in
theorem open_lives (h : DataW.trod enc Tryz.prog W 0 (fun _ => true) true fuel 30 cs = some x) : ∃ (dv : Value) (l : List PLv), cs = [dv] ∧ Sl W (fun g => g < W.heap.size) 4 dv l.length (l.flatMap lvC) := by
  obtain ⟨dv, m, l, h1, h2, h3, h4, h5⟩ := open_sl Tryz.underlying30 k_lv (by decide) h lvC (fun _ => rfl) (fun _ => True) (fun n cs' y hl ht => open_lv hl ht)
  subst h3
  exact ⟨dv, l, h1, h2⟩
set_option maxRecDepth 100000 in
theorem open_dirty (h : DataW.trod enc Tryz.prog W 0 (fun _ => true) true fuel 31 cs = some x) : ∃ (dv : Value) (l : List PDt), cs = [dv] ∧ Sl W (fun g => g < W.heap.size) 2 dv l.length (l.flatMap dtC) := by
  obtain ⟨dv, m, l, h1, h2, h3, h4, h5⟩ := open_sl Tryz.underlying31 k_dt (by decide) h dtC (fun _ => rfl) (fun _ => True) (fun n cs' y hl ht => open_dt hl ht)
  subst h3
  exact ⟨dv, l, h1, h2⟩
set_option maxRecDepth 100000 in
theorem open_op (hlen : cs.length = 3) (h : DataW.trod enc Tryz.prog W 0 (fun _ => true) true fuel 112 cs = some x) : ∃ m : POp × Value, cs = opC m ∧ Sl W (fun g => g < W.heap.size) 4 m.2 m.1.moves.length (m.1.moves.flatMap mvC) := by
  obtain ⟨xs, n', _, _, _, hxl, hfld⟩ := DataW.trod_struct Tryz.underlying112 h
  match cs, hlen with
  | [v0, v1, v2], _ =>
    have hxl' : xs.length = 3 := hxl
    match xs, hxl' with
    | [y0, y1, y2], _ =>
      have g0 := hfld 0 ⟨"Unit", 3, 0, false, "", "", 0⟩ rfl
      have g1 := hfld 1 ⟨"Moves", 29, 1, false, "", "", 8⟩ rfl
      have g2 := hfld 2 ⟨"Done", 3, 2, false, "", "", 32⟩ rfl
      simp only [k_int, List.drop_zero, List.take_succ_cons, List.take_zero, List.getElem?_cons_zero] at g0
      simp only [k_smv, List.drop_succ_cons, List.drop_zero, List.take_succ_cons, List.take_zero, List.getElem?_cons_succ, List.getElem?_cons_zero] at g1
      simp only [k_int, List.drop_succ_cons, List.drop_zero, List.take_succ_cons, List.take_zero, List.getElem?_cons_succ, List.getElem?_cons_zero] at g2
      obtain ⟨c0, e0, _, _⟩ := DataW.trod_int Tryz.underlying3 g0
      have e0 := (List.cons.inj e0).1
      subst e0
      obtain ⟨d1, l1, e1, s1⟩ := open_moves g1
      have e1 := (List.cons.inj e1).1
      subst e1
      obtain ⟨c2, e2, _, _⟩ := DataW.trod_int Tryz.underlying3 g2
      have e2 := (List.cons.inj e2).1
      subst e2
      exact ⟨(⟨c0, l1, c2⟩, v1), rfl, s1⟩
set_option maxRecDepth 100000 in
theorem open_opens (h : DataW.trod enc Tryz.prog W 0 (fun _ => true) true fuel 32 cs = some x) : ∃ (dv : Value) (l : List POp), cs = [dv] ∧ OpSl W (fun g => g < W.heap.size) dv l.length l := by
  obtain ⟨dv, m, l, h1, h2, h3, h4, h5⟩ := open_sl Tryz.underlying32 k_op (by decide) h opC (fun _ => rfl) (fun m : POp × Value => Sl W (fun g => g < W.heap.size) 4 m.2 m.1.moves.length (m.1.moves.flatMap mvC)) (fun n cs' y hl ht => open_op hl ht)
  subst h3
  refine ⟨dv, l.map (·.1), h1, l.map (·.2), by simp, ?_, fun k o mv hk hm => ?_⟩
  · have e : (l.map (·.1)).zip (l.map (·.2)) = l := by
      rw [List.zip_map']
      simp
    rw [e, List.length_map]
    exact h2
  · rw [List.getElem?_map, Option.map_eq_some_iff] at hk hm
    obtain ⟨a, ha, rfl⟩ := hk
    obtain ⟨a', ha', rfl⟩ := hm
    rw [ha] at ha'
    cases ha'
    exact h4 a (List.mem_of_getElem? ha)
/-- An entry's cells in memory: its parts, and where they lie. -/
structure PEx where
  e : PE
  ov : Value
  nv : Value
  mv : Value
  lv : Value
  dv : Value
  pv : Value
def PEx.cells (z : PEx) : List Value := (eV z.e z.ov z.nv z.mv z.lv z.dv z.pv).toList
set_option maxRecDepth 100000 in
theorem open_en (hlen : cs.length = 16) (h : DataW.trod enc Tryz.prog W 0 (fun _ => true) true fuel 34 cs = some x) : ∃ z : PEx, cs = z.cells ∧ EIs W (fun g => g < W.heap.size) z.e z.ov z.nv z.mv z.lv z.dv z.pv := by
  obtain ⟨xs, n', _, _, _, hxl, hfld⟩ := DataW.trod_struct Tryz.underlying34 h
  match cs, hlen with
  | [v0, v1, v2, v3, v4, v5, v6, v7, v8, v9, v10, v11, v12, v13, v14, v15], _ =>
    have hxl' : xs.length = 14 := hxl
    match xs, hxl' with
    | [y0, y1, y2, y3, y4, y5, y6, y7, y8, y9, y10, y11, y12, y13], _ =>
      have g0 := hfld 0 ⟨"Kind", 3, 0, false, "", "", 0⟩ rfl
      have g1 := hfld 1 ⟨"Txn", 3, 1, false, "", "", 8⟩ rfl
      have g2 := hfld 2 ⟨"Unit", 3, 2, false, "", "", 16⟩ rfl
      have g3 := hfld 3 ⟨"Half", 3, 3, false, "", "", 24⟩ rfl
      have g4 := hfld 4 ⟨"Prev", 3, 4, false, "", "", 32⟩ rfl
      have g5 := hfld 5 ⟨"Next", 3, 5, false, "", "", 40⟩ rfl
      have g6 := hfld 6 ⟨"At", 28, 6, false, "", "", 48⟩ rfl
      have g7 := hfld 7 ⟨"To", 28, 8, false, "", "", 64⟩ rfl
      have g8 := hfld 8 ⟨"Old", 23, 10, false, "", "", 80⟩ rfl
      have g9 := hfld 9 ⟨"New", 23, 11, false, "", "", 104⟩ rfl
      have g10 := hfld 10 ⟨"Moves", 29, 12, false, "", "", 128⟩ rfl
      have g11 := hfld 11 ⟨"Lives", 30, 13, false, "", "", 152⟩ rfl
      have g12 := hfld 12 ⟨"Dirty", 31, 14, false, "", "", 176⟩ rfl
      have g13 := hfld 13 ⟨"Open", 32, 15, false, "", "", 200⟩ rfl
      simp only [k_int, List.drop_zero, List.take_succ_cons, List.take_zero, List.getElem?_cons_zero] at g0
      simp only [k_int, List.drop_succ_cons, List.drop_zero, List.take_succ_cons, List.take_zero, List.getElem?_cons_succ, List.getElem?_cons_zero] at g1
      simp only [k_int, List.drop_succ_cons, List.drop_zero, List.take_succ_cons, List.take_zero, List.getElem?_cons_succ, List.getElem?_cons_zero] at g2
      simp only [k_int, List.drop_succ_cons, List.drop_zero, List.take_succ_cons, List.take_zero, List.getElem?_cons_succ, List.getElem?_cons_zero] at g3
      simp only [k_int, List.drop_succ_cons, List.drop_zero, List.take_succ_cons, List.take_zero, List.getElem?_cons_succ, List.getElem?_cons_zero] at g4
      simp only [k_int, List.drop_succ_cons, List.drop_zero, List.take_succ_cons, List.take_zero, List.getElem?_cons_succ, List.getElem?_cons_zero] at g5
      simp only [k_rid, List.drop_succ_cons, List.drop_zero, List.take_succ_cons, List.take_zero, List.getElem?_cons_succ, List.getElem?_cons_zero] at g6
      simp only [k_rid, List.drop_succ_cons, List.drop_zero, List.take_succ_cons, List.take_zero, List.getElem?_cons_succ, List.getElem?_cons_zero] at g7
      simp only [k_s8, List.drop_succ_cons, List.drop_zero, List.take_succ_cons, List.take_zero, List.getElem?_cons_succ, List.getElem?_cons_zero] at g8
      simp only [k_s8, List.drop_succ_cons, List.drop_zero, List.take_succ_cons, List.take_zero, List.getElem?_cons_succ, List.getElem?_cons_zero] at g9
      simp only [k_smv, List.drop_succ_cons, List.drop_zero, List.take_succ_cons, List.take_zero, List.getElem?_cons_succ, List.getElem?_cons_zero] at g10
      simp only [k_slv, List.drop_succ_cons, List.drop_zero, List.take_succ_cons, List.take_zero, List.getElem?_cons_succ, List.getElem?_cons_zero] at g11
      simp only [k_sdt, List.drop_succ_cons, List.drop_zero, List.take_succ_cons, List.take_zero, List.getElem?_cons_succ, List.getElem?_cons_zero] at g12
      simp only [k_sop, List.drop_succ_cons, List.drop_zero, List.take_succ_cons, List.take_zero, List.getElem?_cons_succ, List.getElem?_cons_zero] at g13
      obtain ⟨c0, e0, _, _⟩ := DataW.trod_int Tryz.underlying3 g0
      have e0 := (List.cons.inj e0).1
      subst e0
      obtain ⟨c1, e1, _, _⟩ := DataW.trod_int Tryz.underlying3 g1
      have e1 := (List.cons.inj e1).1
      subst e1
      obtain ⟨c2, e2, _, _⟩ := DataW.trod_int Tryz.underlying3 g2
      have e2 := (List.cons.inj e2).1
      subst e2
      obtain ⟨c3, e3, _, _⟩ := DataW.trod_int Tryz.underlying3 g3
      have e3 := (List.cons.inj e3).1
      subst e3
      obtain ⟨c4, e4, _, _⟩ := DataW.trod_int Tryz.underlying3 g4
      have e4 := (List.cons.inj e4).1
      subst e4
      obtain ⟨c5, e5, _, _⟩ := DataW.trod_int Tryz.underlying3 g5
      have e5 := (List.cons.inj e5).1
      subst e5
      obtain ⟨p6, c6, e6⟩ := open_rid rfl g6
      have e6a := (List.cons.inj e6).1
      have e6b := (List.cons.inj (List.cons.inj e6).2).1
      subst e6a e6b
      obtain ⟨p8, c8, e8⟩ := open_rid rfl g7
      have e8a := (List.cons.inj e8).1
      have e8b := (List.cons.inj (List.cons.inj e8).2).1
      subst e8a e8b
      obtain ⟨d10, l10, e10, s10, b10, -⟩ := open_bytes g8
      have e10 := (List.cons.inj e10).1
      subst e10
      obtain ⟨d11, l11, e11, s11, b11, -⟩ := open_bytes g9
      have e11 := (List.cons.inj e11).1
      subst e11
      obtain ⟨d12, l12, e12, s12⟩ := open_moves g10
      have e12 := (List.cons.inj e12).1
      subst e12
      obtain ⟨d13, l13, e13, s13⟩ := open_lives g11
      have e13 := (List.cons.inj e13).1
      subst e13
      obtain ⟨d14, l14, e14, s14⟩ := open_dirty g12
      have e14 := (List.cons.inj e14).1
      subst e14
      obtain ⟨d15, l15, e15, s15⟩ := open_opens g13
      have e15 := (List.cons.inj e15).1
      subst e15
      exact ⟨⟨⟨c0, c1, c2, c3, c4, c5, p6, c6, p8, c8, l10, l11, l12, l13, l14, l15⟩, v10, v11, v12, v13, v14, v15⟩, rfl, ⟨s10, s11, s12, s13, s14, s15, b10, b11⟩⟩
set_option maxRecDepth 100000 in
/-- A row of entries that came in. -/
theorem open_entries {base : Nat} {v : Value} {d : DataW H} {p : List MemPlace} (hval : Value.okWide Tryz.prog W .any base 22 v) (h : DataW.Trod enc Tryz.prog W 0 (fun _ => true) true 22 v d p) : ∃ (a : Option Addr) (c : Nat) (es : List PE), v = .slice a es.length c ∧ Ents W (fun g => g < W.heap.size) v es := by
  obtain ⟨a0, len0, cap0, rfl⟩ := okWide_slice Tryz.underlying22 hval
  obtain ⟨fuel, hf⟩ := h
  obtain ⟨dv, m, l, h1, h2, h3, h4, h5⟩ := open_sl Tryz.underlying22 k_en (by decide) hf PEx.cells (fun _ => rfl) (fun z : PEx => EIs W (fun g => g < W.heap.size) z.e z.ov z.nv z.mv z.lv z.dv z.pv) (fun n cs' y hl ht => open_en hl ht)
  have h1' : Value.slice a0 len0 cap0 = dv := by
    have : [Value.slice a0 len0 cap0] = [dv] := h1
    exact (List.cons.inj this).1
  subst h3
  obtain ⟨a, c, e⟩ := h2.form
  rw [← h1'] at e h2
  have e2 : len0 = l.length := (Value.slice.inj e).2.1
  subst e2
  refine ⟨a0, cap0, l.map (·.e), by rw [List.length_map], l.map PEx.cells, ⟨by simp, fun k e c hk hc => ?_⟩, ?_⟩
  · rw [List.getElem?_map, Option.map_eq_some_iff] at hk hc
    obtain ⟨z, hz, rfl⟩ := hk
    obtain ⟨z', hz', rfl⟩ := hc
    rw [hz] at hz'
    cases hz'
    exact ⟨_, _, _, _, _, _, rfl, h4 z (List.mem_of_getElem? hz)⟩
  · rw [List.length_map, ← List.flatMap_def]
    exact h2
set_option maxRecDepth 100000 in
/-- A row of bytes that came in, empty or not. -/
theorem open_row8 {base : Nat} {v : Value} {d : DataW H} {p : List MemPlace} (hval : Value.okWide Tryz.prog W .any base 23 v) (h : DataW.Trod enc Tryz.prog W 0 (fun _ => true) true 23 v d p) : ∃ (a : Option Addr) (c : Nat) (l : List Int), v = .slice a l.length c ∧ Sl W (fun g => g < W.heap.size) 1 v l.length (bc l) ∧ Byt l ∧ Cap l.length v := by
  obtain ⟨a0, len0, cap0, rfl⟩ := okWide_slice Tryz.underlying23 hval
  obtain ⟨fuel, hf⟩ := h
  obtain ⟨dv, l, h1, h2, h3, h4⟩ := open_bytes hf
  have h1' : Value.slice a0 len0 cap0 = dv := by
    have : [Value.slice a0 len0 cap0] = [dv] := h1
    exact (List.cons.inj this).1
  subst h1'
  obtain ⟨a, c, e⟩ := h2.form
  have e2 : len0 = l.length := (Value.slice.inj e).2.1
  subst e2
  exact ⟨a0, cap0, l, rfl, h2, h3, h4⟩
end
end Go.Proofs.YtojkggppcmdepaaGreat

namespace Go.Proofs.YtojkggppcmdepaaGreat
open Go.RowKit Go.Wh Go.Maps

set_option maxRecDepth 100000 in
theorem short_any (w : World) (Q : Nat → Prop) (e : PE) (ov nv mv lv dv pv : Value) (h : EIs w Q e ov nv mv lv dv pv) : Calls Tryz.prog 7 #[.agg (eV e ov nv mv lv dv pv)] w (StPost w (.bool (decide ((putB e).length ≤ 150)))) := by
  obtain ⟨oa, oc, na, nc, ma, mc, ka, kc, da, dc, va, vc, rfl, rfl, rfl, rfl, rfl, rfl⟩ := h.forms
  unfold eV
  have hst : Still w (w.alloc (.cells #[.int .i64 e.kind, .int .i64 e.txn, .int .i64 e.unit, .int .i64 e.half, .int .i64 e.prev, .int .i64 e.next, .int .i64 e.ap, .int .i64 e.ac, .int .i64 e.tp, .int .i64 e.tc, .slice oa e.old.length oc, .slice na e.new.length nc, .slice ma e.moves.length mc, .slice ka e.lives.length kc, .slice da e.dirty.length dc, .slice va e.opens.length vc] 34)) := (Still.refl w).alloc _
  have HPU := Lib.hid (rput_any _ Q e _ _ _ _ _ _ (h.still hst))
  unfold eV at HPU
  have HS := Lib.hid hst
  obtain ⟨q, hq⟩ : ∃ q, decide ((putB e).length ≤ 150) = q := ⟨_, rfl⟩
  rw [hq]
  obtain ⟨L, hL⟩ : ∃ L, (putB e).length = L := ⟨_, rfl⟩
  rw [hL] at hq HPU
  have q1 : decide ((L : Int) ≤ 150) = q := by rw [← hq]; exact decide_eq_decide.2 (by omega)
  clear h hst hL
  go_enter Tryz.func7, Tryz.ntmps7
  go_wp2_with fail
  refine HPU.out.mono ?_
  rintro en w2 ⟨pv, rfl, hpv, hpb, -⟩
  obtain ⟨pa, pc, rfl⟩ := hpv.form'
  have F := Lib.hid (show StPost w (.bool q) (.returned (.bool q)) w2 from ⟨rfl, HS.out.trans (Only.ofBelow hpb)⟩)
  clear hpv hpb HPU
  go_wp2_with fail
  go_ret
  exact F.out
/-- What both scans tell. -/
def ScPost2 (w : World) (R : List PE × Nat) (en : Ending) (w' : World) : Prop := ∃ a c, en = .returned (.tuple #[.slice a R.1.length c, .int .i64 (R.2 : Nat)]) ∧ Ents w' (fun _ => True) (.slice a R.1.length c) R.1 ∧ Still w w'
theorem scan_as {R : List PE × Nat} (w : World) (Q : Nat → Prop) (bv : Value) (n : Nat) (b : List Int) (hb : Sl w Q 1 bv n (bc b)) (hc : Cap n bv) (hby : Byt b) (hn : n ≤ 100000) (hR : scanB (b.length + 1) b = R) : Calls Tryz.prog 10 #[bv] w (ScPost2 w R) := by
  refine (scan_any w Q bv n b hb hc hby hn).mono ?_
  rintro en w' ⟨lv, h1, h2, h3⟩
  rw [hR] at h1 h2
  obtain ⟨a, c, rfl⟩ := h2.form
  exact ⟨a, c, h1, h2.mono fun _ _ => trivial, h3⟩
theorem rscan_as {R : List PE × Nat} (w : World) (Q : Nat → Prop) (bv : Value) (n : Nat) (b : List Int) (hb : Sl w Q 1 bv n (bc b)) (hc : Cap n bv) (hby : Byt b) (hn : n ≤ 100000) (hR : scanB (b.length + 1) b = R) : Calls Tryz.prog 11 #[bv] w (ScPost2 w R) := by
  refine (rscan_any w Q bv n b hb hc hby hn).mono ?_
  rintro en w' ⟨lv, h1, h2, h3⟩
  rw [hR] at h1 h2
  obtain ⟨a, c, rfl⟩ := h2.form
  exact ⟨a, c, h1, h2.mono fun _ _ => trivial, h3⟩
/-- All frames so far. -/
def ScnRel (W : World) (i : Nat) (v : Value) (wr : World) : Prop := ∃ (S : List Int), Vec wr 1 v S.length (bc S) ∧ Byt S ∧ S.length ≤ i * 154 ∧ (∀ g, v.ownBlock = some g → W.heap.size ≤ g ∧ g < wr.heap.size) ∧ Still W wr
theorem frB_le {e : PE} (h : (putB e).length ≤ 150) : (frB e).length ≤ 154 := by
  unfold putB at h
  unfold frB
  split
  · rename_i hm
    rw [if_pos hm] at h
    rw [frameB_length]
    omega
  · simp
theorem frB_byt {e : PE} (h1 : Byt e.old) (h2 : Byt e.new) : Byt (frB e) := by
  unfold frB
  split
  · exact frameB_byt e h1 h2
  · intro z hz; cases hz
set_option maxHeartbeats 16000000 in
set_option maxRecDepth 100000 in
theorem scans_walk (W : World) (la ba : Option Addr) (lc bcp n m : Nat) (es : List PE) (B : List Int) (z t : Int) (hl : es.length = n) (he : Ents W (fun g => g < W.heap.size) (.slice la n lc) es) (hB : B.length = m) (hbs : Sl W (fun g => g < W.heap.size) 1 (.slice ba m bcp) m (bc B)) (hby : Byt B) (hcp : Cap m (.slice ba m bcp)) (z0 : 0 ≤ z) (z1 : z ≤ 65535) (t0 : 0 ≤ t) (t1 : t ≤ 255) :
    Calls Tryz.prog 3 #[.slice la n lc, .slice ba m bcp, .int .u16 z, .int .u8 t] W (BTrue W) := by
  have HBG := Lib.hid (begun_any W)
  have HL := Lib.hid (And.intro hl he)
  have HB := Lib.hid (And.intro hB (And.intro hbs (And.intro hby hcp)))
  have HT := Lib.hid (And.intro t0 t1)
  clear hl he hB hbs hby hcp t0 t1
  by_cases hbad : 6 < n ∨ 200 < m
  · obtain ⟨x1, e1⟩ : ∃ b, decide ((6 : Int) < (n : Int)) = b := ⟨_, rfl⟩
    obtain ⟨x2, e2⟩ : ∃ b, decide ((200 : Int) < (m : Int)) = b := ⟨_, rfl⟩
    have f1 : decide (6 < n) = x1 := by rw [← e1]; exact decide_eq_decide.2 (by omega)
    have f2 : decide (200 < m) = x2 := by rw [← e2]; exact decide_eq_decide.2 (by omega)
    have hx : x1 = true ∨ x2 = true := by
      rcases hbad with h | h
      · left; rw [← f1]; exact decide_eq_true h
      · right; rw [← f2]; exact decide_eq_true h
    have HX := Lib.hid hx
    clear hbad hx
    go_enter Tryz.func3, Tryz.ntmps3
    go_wp2_with fail
    refine HBG.out.mono ?_
    rintro en w1 ⟨rfl, hs1⟩
    have F := Lib.hid (show BTrue W (.returned (.bool true)) w1 from ⟨rfl, hs1⟩)
    clear hs1 HBG
    cases x1
    · cases x2
      · exact absurd HX.out (by simp)
      · go_wp2_with fail
        go_ret
        exact F.out
    · go_wp2_with fail
      go_ret
      exact F.out
  have b1 : decide ((6 : Int) < (n : Int)) = false := decide_eq_false (by omega)
  have b2 : decide ((200 : Int) < (m : Int)) = false := decide_eq_false (by omega)
  have b4 : decide (6 < n) = false := decide_eq_false (by omega)
  have b5 : decide (200 < m) = false := decide_eq_false (by omega)
  have HM := Lib.hid (show n ≤ 6 ∧ m ≤ 200 from by omega)
  clear hbad
  go_enter Tryz.func3, Tryz.ntmps3
  go_wp2_with fail
  refine HBG.out.mono ?_
  rintro en w1 ⟨rfl, hs1⟩
  have H1 := Lib.hid hs1
  clear hs1 HBG
  go_wp2_with fail
  go_loopw [9, 10] (fun s9 s10 wr => ∃ i : Nat, s10 = .int .i64 i ∧ i ≤ n ∧ ScnRel W i s9 wr) (fun _ s10 _ => n - (intOf s10).toNat)
  case atStart => exact ⟨0, rfl, Nat.zero_le _, [], Vec.nil _ _, (fun z hz => by cases hz), Nat.le_refl _, (fun g hg => by cases hg), H1.out⟩
  obtain ⟨i, rfl, him, S, hv, hsb, hsl, hown, hst⟩ := hrel
  obtain ⟨sa, sc, rfl⟩ := hv.form'
  have HR := Lib.hid (And.intro hv (And.intro hsb (And.intro hsl (And.intro hown hst))))
  obtain ⟨L, hL⟩ : ∃ L, S.length = L := ⟨_, rfl⟩
  have HLL := Lib.hid hL
  rw [hL] at HR ⊢
  have HIM := Lib.hid him
  by_cases hi : i < n
  · as_aux_lemma =>
      have d1 : decide ((i : Int) < (n : Int)) = true := decide_eq_true (by omega)
      have d2 : decide (i < n) = true := decide_eq_true hi
      have l0 : (0 : Int) ≤ (i : Int) := by omega
      have l1 : (i : Int) < (n : Int) := by omega
      have u1 : IntKind.i64.wrap ((i : Int) + 1) = (i : Int) + 1 := IntWalk.i64_in _ (by have := HM.out; omega)
      obtain ⟨e, he⟩ : ∃ e, es[i]? = some e := ⟨_, List.getElem?_eq_getElem (by rw [HL.out.1]; exact hi)⟩
      obtain ⟨g, o, oa, oc, na, nc, ma, mc, ka, kc, da, dc, va, vc, hsa, -, hei, hcs⟩ := (HL.out.2.still hst).at he
      subst hsa
      have HSH := Lib.hid (short_any wr _ e _ _ _ _ _ _ hei)
      unfold eV at HSH
      have HEI := Lib.hid (And.intro hei hcs)
      have HI := Lib.hid hi
      have c0 : wr.cell? ⟨g, o + i * 16, none⟩ = some (.int .i64 e.kind) := hcs 0 _ (by decide) rfl
      have c1 : wr.cell? ⟨g, o + i * 16 + 1, none⟩ = some (.int .i64 e.txn) := by rw [Nat.add_assoc]; exact hcs 1 _ (by decide) rfl
      have c2 : wr.cell? ⟨g, o + i * 16 + 2, none⟩ = some (.int .i64 e.unit) := by rw [Nat.add_assoc]; exact hcs 2 _ (by decide) rfl
      have c3 : wr.cell? ⟨g, o + i * 16 + 3, none⟩ = some (.int .i64 e.half) := by rw [Nat.add_assoc]; exact hcs 3 _ (by decide) rfl
      have c4 : wr.cell? ⟨g, o + i * 16 + 4, none⟩ = some (.int .i64 e.prev) := by rw [Nat.add_assoc]; exact hcs 4 _ (by decide) rfl
      have c5 : wr.cell? ⟨g, o + i * 16 + 5, none⟩ = some (.int .i64 e.next) := by rw [Nat.add_assoc]; exact hcs 5 _ (by decide) rfl
      have c6 : wr.cell? ⟨g, o + i * 16 + 6, none⟩ = some (.int .i64 e.ap) := by rw [Nat.add_assoc]; exact hcs 6 _ (by decide) rfl
      have c7 : wr.cell? ⟨g, o + i * 16 + 7, none⟩ = some (.int .i64 e.ac) := by rw [Nat.add_assoc]; exact hcs 7 _ (by decide) rfl
      have c8 : wr.cell? ⟨g, o + i * 16 + 8, none⟩ = some (.int .i64 e.tp) := by rw [Nat.add_assoc]; exact hcs 8 _ (by decide) rfl
      have c9 : wr.cell? ⟨g, o + i * 16 + 9, none⟩ = some (.int .i64 e.tc) := by rw [Nat.add_assoc]; exact hcs 9 _ (by decide) rfl
      have c10 : wr.cell? ⟨g, o + i * 16 + 10, none⟩ = some (.slice oa e.old.length oc) := by rw [Nat.add_assoc]; exact hcs 10 _ (by decide) rfl
      have c11 : wr.cell? ⟨g, o + i * 16 + 11, none⟩ = some (.slice na e.new.length nc) := by rw [Nat.add_assoc]; exact hcs 11 _ (by decide) rfl
      have c12 : wr.cell? ⟨g, o + i * 16 + 12, none⟩ = some (.slice ma e.moves.length mc) := by rw [Nat.add_assoc]; exact hcs 12 _ (by decide) rfl
      have c13 : wr.cell? ⟨g, o + i * 16 + 13, none⟩ = some (.slice ka e.lives.length kc) := by rw [Nat.add_assoc]; exact hcs 13 _ (by decide) rfl
      have c14 : wr.cell? ⟨g, o + i * 16 + 14, none⟩ = some (.slice da e.dirty.length dc) := by rw [Nat.add_assoc]; exact hcs 14 _ (by decide) rfl
      have c15 : wr.cell? ⟨g, o + i * 16 + 15, none⟩ = some (.slice va e.opens.length vc) := by rw [Nat.add_assoc]; exact hcs 15 _ (by decide) rfl
      obtain ⟨q, hq⟩ : ∃ q, decide ((putB e).length ≤ 150) = q := ⟨_, rfl⟩
      rw [hq] at HSH
      have HQ := Lib.hid hq
      clear hv hsb hsl hown hst hL hei hcs he hq him hi
      go_wp2_with fail
      refine HSH.out.mono ?_
      rintro en w2 ⟨rfl, hs2⟩
      have H2 := Lib.hid hs2
      clear c0 c1 c2 c3 c4 c5 c6 c7 c8 c9 c10 c11 c12 c13 c14 c15 hs2 HSH
      cases q with
      | false =>
        have F := Lib.hid (show BTrue W (.returned (.bool true)) w2 from ⟨rfl, HR.out.2.2.2.2.trans H2.out⟩)
        go_wp2_with fail
        go_ret
        exact F.out
      | true =>
        have hcs2 : ∀ j u, j < 16 → (eV e (.slice oa e.old.length oc) (.slice na e.new.length nc) (.slice ma e.moves.length mc) (.slice ka e.lives.length kc) (.slice da e.dirty.length dc) (.slice va e.opens.length vc)).toList[j]? = some u → w2.cell? ⟨g, o + (i * 16 + j), none⟩ = some u := fun j u hj hu => Still.cell H2.out (HEI.out.2 j u hj hu)
        have c0 : w2.cell? ⟨g, o + i * 16, none⟩ = some (.int .i64 e.kind) := hcs2 0 _ (by decide) rfl
        have c1 : w2.cell? ⟨g, o + i * 16 + 1, none⟩ = some (.int .i64 e.txn) := by rw [Nat.add_assoc]; exact hcs2 1 _ (by decide) rfl
        have c2 : w2.cell? ⟨g, o + i * 16 + 2, none⟩ = some (.int .i64 e.unit) := by rw [Nat.add_assoc]; exact hcs2 2 _ (by decide) rfl
        have c3 : w2.cell? ⟨g, o + i * 16 + 3, none⟩ = some (.int .i64 e.half) := by rw [Nat.add_assoc]; exact hcs2 3 _ (by decide) rfl
        have c4 : w2.cell? ⟨g, o + i * 16 + 4, none⟩ = some (.int .i64 e.prev) := by rw [Nat.add_assoc]; exact hcs2 4 _ (by decide) rfl
        have c5 : w2.cell? ⟨g, o + i * 16 + 5, none⟩ = some (.int .i64 e.next) := by rw [Nat.add_assoc]; exact hcs2 5 _ (by decide) rfl
        have c6 : w2.cell? ⟨g, o + i * 16 + 6, none⟩ = some (.int .i64 e.ap) := by rw [Nat.add_assoc]; exact hcs2 6 _ (by decide) rfl
        have c7 : w2.cell? ⟨g, o + i * 16 + 7, none⟩ = some (.int .i64 e.ac) := by rw [Nat.add_assoc]; exact hcs2 7 _ (by decide) rfl
        have c8 : w2.cell? ⟨g, o + i * 16 + 8, none⟩ = some (.int .i64 e.tp) := by rw [Nat.add_assoc]; exact hcs2 8 _ (by decide) rfl
        have c9 : w2.cell? ⟨g, o + i * 16 + 9, none⟩ = some (.int .i64 e.tc) := by rw [Nat.add_assoc]; exact hcs2 9 _ (by decide) rfl
        have c10 : w2.cell? ⟨g, o + i * 16 + 10, none⟩ = some (.slice oa e.old.length oc) := by rw [Nat.add_assoc]; exact hcs2 10 _ (by decide) rfl
        have c11 : w2.cell? ⟨g, o + i * 16 + 11, none⟩ = some (.slice na e.new.length nc) := by rw [Nat.add_assoc]; exact hcs2 11 _ (by decide) rfl
        have c12 : w2.cell? ⟨g, o + i * 16 + 12, none⟩ = some (.slice ma e.moves.length mc) := by rw [Nat.add_assoc]; exact hcs2 12 _ (by decide) rfl
        have c13 : w2.cell? ⟨g, o + i * 16 + 13, none⟩ = some (.slice ka e.lives.length kc) := by rw [Nat.add_assoc]; exact hcs2 13 _ (by decide) rfl
        have c14 : w2.cell? ⟨g, o + i * 16 + 14, none⟩ = some (.slice da e.dirty.length dc) := by rw [Nat.add_assoc]; exact hcs2 14 _ (by decide) rfl
        have c15 : w2.cell? ⟨g, o + i * 16 + 15, none⟩ = some (.slice va e.opens.length vc) := by rw [Nat.add_assoc]; exact hcs2 15 _ (by decide) rfl
        have HFR := Lib.hid (frame_any w2 _ e _ _ _ _ _ _ (HEI.out.1.still H2.out))
        unfold eV at HFR
        obtain ⟨F, hF⟩ : ∃ F, frB e = F := ⟨_, rfl⟩
        have HF := Lib.hid (show Byt F ∧ F.length ≤ 154 from by rw [← hF]; exact ⟨frB_byt HEI.out.1.bo HEI.out.1.bn, frB_le (of_decide_eq_true HQ.out)⟩)
        have HRF := Lib.hid (fun w' (hs : Still w2 w') => rframe_any w' _ e _ _ _ _ _ _ ((HEI.out.1.still H2.out).still hs))
        unfold eV at HRF
        rw [hF] at HFR HRF
        clear hcs2 hF
        go_wp2_with fail
        refine HFR.out.mono ?_
        rintro en w3 ⟨fv, rfl, hfv, hfb, hfo⟩
        obtain ⟨fa, fc, rfl⟩ := hfv.form'
        have H3 := Lib.hid (And.intro hfv (show Still w2 w3 from Only.ofBelow hfb))
        have HCE := Lib.hid (fun w' (hs : Still w3 w') => show w'.cell? ⟨g, o + i * 16, none⟩ = some (.int .i64 e.kind) ∧ w'.cell? ⟨g, o + i * 16 + 1, none⟩ = some (.int .i64 e.txn) ∧ w'.cell? ⟨g, o + i * 16 + 2, none⟩ = some (.int .i64 e.unit) ∧ w'.cell? ⟨g, o + i * 16 + 3, none⟩ = some (.int .i64 e.half) ∧ w'.cell? ⟨g, o + i * 16 + 4, none⟩ = some (.int .i64 e.prev) ∧ w'.cell? ⟨g, o + i * 16 + 5, none⟩ = some (.int .i64 e.next) ∧ w'.cell? ⟨g, o + i * 16 + 6, none⟩ = some (.int .i64 e.ap) ∧ w'.cell? ⟨g, o + i * 16 + 7, none⟩ = some (.int .i64 e.ac) ∧ w'.cell? ⟨g, o + i * 16 + 8, none⟩ = some (.int .i64 e.tp) ∧ w'.cell? ⟨g, o + i * 16 + 9, none⟩ = some (.int .i64 e.tc) ∧ w'.cell? ⟨g, o + i * 16 + 10, none⟩ = some (.slice oa e.old.length oc) ∧ w'.cell? ⟨g, o + i * 16 + 11, none⟩ = some (.slice na e.new.length nc) ∧ w'.cell? ⟨g, o + i * 16 + 12, none⟩ = some (.slice ma e.moves.length mc) ∧ w'.cell? ⟨g, o + i * 16 + 13, none⟩ = some (.slice ka e.lives.length kc) ∧ w'.cell? ⟨g, o + i * 16 + 14, none⟩ = some (.slice da e.dirty.length dc) ∧ w'.cell? ⟨g, o + i * 16 + 15, none⟩ = some (.slice va e.opens.length vc) from by
          have hcs3 : ∀ j u, j < 16 → (eV e (.slice oa e.old.length oc) (.slice na e.new.length nc) (.slice ma e.moves.length mc) (.slice ka e.lives.length kc) (.slice da e.dirty.length dc) (.slice va e.opens.length vc)).toList[j]? = some u → w'.cell? ⟨g, o + (i * 16 + j), none⟩ = some u := fun j u hj hu => Still.cell ((H2.out.trans H3.out.2).trans hs) (HEI.out.2 j u hj hu)
          refine ⟨hcs3 0 _ (by decide) rfl, (by rw [Nat.add_assoc]; exact hcs3 1 _ (by decide) rfl), (by rw [Nat.add_assoc]; exact hcs3 2 _ (by decide) rfl), (by rw [Nat.add_assoc]; exact hcs3 3 _ (by decide) rfl), (by rw [Nat.add_assoc]; exact hcs3 4 _ (by decide) rfl), (by rw [Nat.add_assoc]; exact hcs3 5 _ (by decide) rfl), (by rw [Nat.add_assoc]; exact hcs3 6 _ (by decide) rfl), (by rw [Nat.add_assoc]; exact hcs3 7 _ (by decide) rfl), (by rw [Nat.add_assoc]; exact hcs3 8 _ (by decide) rfl), (by rw [Nat.add_assoc]; exact hcs3 9 _ (by decide) rfl), (by rw [Nat.add_assoc]; exact hcs3 10 _ (by decide) rfl), (by rw [Nat.add_assoc]; exact hcs3 11 _ (by decide) rfl), (by rw [Nat.add_assoc]; exact hcs3 12 _ (by decide) rfl), (by rw [Nat.add_assoc]; exact hcs3 13 _ (by decide) rfl), (by rw [Nat.add_assoc]; exact hcs3 14 _ (by decide) rfl), (by rw [Nat.add_assoc]; exact hcs3 15 _ (by decide) rfl)⟩)
        obtain ⟨FS, hFS⟩ : ∃ s, strOfNums F = s := ⟨_, rfl⟩
        have HCV := Lib.hid (fun w' (hs : Still w3 w') => convB ((Vec.sl0 H3.out.1 (by decide)).still hs))
        rw [hFS] at HCV
        have HFS := Lib.hid hFS
        clear hfv hfb hfo HFR hFS c0 c1 c2 c3 c4 c5 c6 c7 c8 c9 c10 c11 c12 c13 c14 c15
        go_wp2_with fail
        refine wp_region_D_drew (D := (fun i => [0, 2, 3, 4, 8].contains i)) (S := (fun w' => Still w3 w')) (by kernel_rfl) ?_ (fun hHeld => ?_)
        · exact still_drew w3
        (refine takeD (i := 0) (some 47) (v := ?_) rfl (by rfl) (by rfl) (by kernel_rfl) (by rfl) (fun _ _ _ h => h) ?_ ?_; rotate_left; (intro w; go_simp; try with_reducible rfl); try go_frame)
        (refine takeD (i := 2) (some 49) (v := ?_) rfl (by rfl) (by rfl) (by kernel_rfl) (by rfl) (fun _ _ _ h => h) ?_ ?_; rotate_left; (intro w; go_simp; try with_reducible rfl); try go_frame)
        (refine takeD (i := 3) (some 50) (v := ?_) rfl (by rfl) (by rfl) (by kernel_rfl) (by rfl) (fun _ _ _ h => h) ?_ ?_; rotate_left; (intro w; go_simp; try with_reducible rfl); try go_frame)
        (refine takeD (i := 4) (some 51) (v := ?_) rfl (by rfl) (by rfl) (by kernel_rfl) (by rfl) (fun _ _ _ h => h) ?_ ?_; rotate_left; (intro w; go_simp; try with_reducible rfl); try go_frame)
        (refine takeS (i := 1) (some 48) (v := ?_) rfl (by rfl) (by rfl) (by kernel_rfl) (by rfl) (fun _ _ _ h => h) (by assumption) ?_ ?_; rotate_left; (intro w hSw; have hcv := HCV.out w hSw; clear hSw; go_simp; try with_reducible rfl); try go_frame)
        (refine takeS (i := 5) (some 52) (v := ?_) rfl (by rfl) (by rfl) (by kernel_rfl) (by rfl) (fun _ _ _ h => h) (by assumption) ?_ ?_; rotate_left; (intro w hSw; obtain ⟨c0, c1, c2, c3, c4, c5, c6, c7, c8, c9, c10, c11, c12, c13, c14, c15⟩ := HCE.out w hSw; clear hSw; go_simp; try with_reducible rfl); try go_frame)
        refine wpAnyD_ready (rs := [6]) (by kernel_rfl) (by simp) ?_
        refine ReadyD.cons rfl (fun K hK => ?_) ?_
        go_simp
        refine (HRF.out _ (H3.out.2.trans (still_drew w3))).mono ?_
        rintro en w4 ⟨gv, rfl, hgv, hgb, -⟩
        have hs4 : Still w3 w4 := (still_drew w3).trans (Only.ofBelow hgb)
        have H4 := Lib.hid hs4
        have hcg := convB (Vec.sl0 hgv (by decide))
        rw [HFS.out] at hcg
        obtain ⟨ga, gc, rfl⟩ := hgv.form'
        clear hgv hgb hs4
        go_wp2_with fail
        (refine hK.out _ _ ?_ (fun hNew => ?_); (focus (exact H4.out)); clear hHeld; have hHeld := hNew; clear hNew)
        (clear hK K; try go_frame)
        refine wpAnyD_ready (rs := [7]) (by kernel_rfl) (by simp) ?_
        refine ReadyD.cons rfl (fun K hK => ?_) ?_
        go_simp
        (refine hK.out _ _ ?_ (fun hNew => ?_); (focus (exact H4.out)); clear hHeld; have hHeld := hNew; clear hNew)
        (clear hK K; try go_frame)
        (refine takeD (i := 8) (some 55) (v := ?_) rfl (by rfl) (by rfl) (by kernel_rfl) (by rfl) (fun _ _ _ h => h) ?_ ?_; rotate_left; (intro w; go_simp; try with_reducible rfl); try go_frame)
        refine wpAnyD_done (by kernel_rfl) ?_ _
        rotate_left
        exact ReadyD.nil
        exact ReadyD.nil
        clear hHeld hcg HCV HCE HRF
        have HV4 := Lib.hid (HR.out.1.only ((H2.out.trans H3.out.2).trans H4.out) (fun _ _ e => e))
        have HF4 := Lib.hid ((H3.out.1.only H4.out fun _ _ e => e).reads)
        obtain ⟨i0, hi0, hz0, hz1, hz2⟩ := info_parts info_b
        have HIN := Lib.hid (And.intro hi0 (And.intro hz0 (And.intro hz1 hz2)))
        have HLN := Lib.hid (show L + F.length ≤ maxLen ∧ (L + F.length) * 1 ≤ 140737488355328 from by
          have := HR.out.2.2.1
          have := HF.out.2
          have := HM.out
          have := HI.out
          have h6 : i * 154 ≤ 6 * 154 := Nat.mul_le_mul_right 154 (by omega)
          simp only [maxLen]
          omega)
        obtain ⟨FL, hFL⟩ : ∃ k, F.length = k := ⟨_, rfl⟩
        have HFL := Lib.hid hFL
        rw [hFL] at HF4 HLN ⊢
        clear hi0 hz0 hz1 hz2 hFL
        have HNX := Lib.hid (fun v' w' (hv' : Vec w' 1 v' (L + FL) (bc S ++ bc F)) (ho' : Only (fun k => (Value.slice sa L sc).ownBlock = some k) w4 w') (hb' : v'.ownBlock = (Value.slice sa L sc).ownBlock ∨ ∃ g, v'.ownBlock = some g ∧ w4.heap.size ≤ g ∧ g < w'.heap.size) => show ScnRel W (i + 1) v' w' from by
          have hs24 := (H2.out.trans H3.out.2).trans H4.out
          have hf := append_fresh (a := W) (HR.out.2.2.2.2.trans hs24) (fun g hg => ⟨(HR.out.2.2.2.1 g hg).1, by have := (HR.out.2.2.2.1 g hg).2; have := hs24.size; omega⟩) ho' hb'
          refine ⟨S ++ F, ?_, HR.out.2.1.append HF.out.1, ?_, hf.2, hf.1⟩
          · rw [List.length_append, HLL.out, HFL.out, bc_append]
            exact hv'
          · have h1 := HR.out.2.2.1
            have h2 := HF.out.2
            rw [List.length_append, HLL.out, Nat.add_mul]
            omega)
        go_wp2_with (at_builtin; refine wpList_append_vec rfl _ _ 23 rfl 5 i0 _ 1 1 Tryz.underlying23 HIN.out.1 HIN.out.2.1 HIN.out.2.2.1 HIN.out.2.2.2 rfl (by decide) (.slice sa L sc) L (bc S) (by simp [Act.eval]) HV4.out (.slice fa FL fc) FL (bc F) (by simp [Act.eval]) HF4.out (bc_one _) HLN.out.1 HLN.out.2 ?_; intro v' w' hv' ho' hb'; obtain ⟨va', vc', rfl⟩ := hv'.form'; have HNX2 := Lib.hid (HNX.out _ w' hv' ho' hb'); clear hv' ho' hb' HNX)
        go_roundw
        case rel => exact ⟨i + 1, by go_num, by have := HI.out; omega, HNX2.out⟩
        case measure => first | (simp [intOf]; done) | (simp [intOf]; have := HI.out; omega)
  have d1 : decide ((i : Int) < (n : Int)) = false := decide_eq_false (by omega)
  have d2 : decide (i < n) = false := decide_eq_false hi
  obtain ⟨R2, hR2⟩ : ∃ R, scanB (B.length + 1) B = R := ⟨_, rfl⟩
  have HR2 := Lib.hid hR2
  have HS := Lib.hid (show L ≤ 1000 from by
    have h := HR.out.2.2.1
    have h6 : i * 154 ≤ 6 * 154 := Nat.mul_le_mul_right 154 (by have := HM.out; have := HIM.out; omega)
    omega)
  clear hv hsb hsl hown hst hL him hi hR2
  by_cases h0 : 0 < L
  rotate_left
  · have e1 : decide ((0 : Int) < (L : Int)) = false := decide_eq_false (by omega)
    have e2 : decide (0 < L) = false := decide_eq_false h0
    have HV := Lib.hid (show Vec wr 1 (.slice sa L sc) L (bc S) ∧ Byt S ∧ S.length = L ∧ Still W wr from ⟨HR.out.1, HR.out.2.1, HLL.out, HR.out.2.2.2.2⟩)
    clear h0
    as_aux_lemma =>
      obtain ⟨R1, hR1⟩ : ∃ R, scanB (S.length + 1) S = R := ⟨_, rfl⟩
      have HR1 := Lib.hid hR1
      clear hR1
      have HC1 := Lib.hid (scan_as wr _ (.slice sa L sc) L S (Vec.sl0 HV.out.1 (by decide)) (Vec.capOf HV.out.1) HV.out.2.1 (by have := HS.out; omega) HR1.out)
      go_wp2_with fail
      refine HC1.out.mono ?_
      rintro en w3 ⟨xa, xc, rfl, hx, hs3⟩
      have H3 := Lib.hid (And.intro hx hs3)
      clear hx hs3 HC1
      have HC2 := Lib.hid (rscan_as w3 _ (.slice sa L sc) L S ((Vec.sl0 HV.out.1 (by decide)).still H3.out.2) (Vec.capOf HV.out.1) HV.out.2.1 (by have := HS.out; omega) HR1.out)
      go_wp2_with fail
      refine HC2.out.mono ?_
      rintro en w4 ⟨ya, yc, rfl, hy, hs4⟩
      have H4 := Lib.hid (And.intro hy hs4)
      clear hy hs4 HC2
      have HS4 := Lib.hid (show Still W w4 from (HV.out.2.2.2.trans H3.out.2).trans H4.out.2)
      have HC3 := Lib.hid (scan_as w4 _ (.slice ba m bcp) m B (HB.out.2.1.still HS4.out) HB.out.2.2.2 HB.out.2.2.1 (by have := HM.out; omega) HR2.out)
      go_wp2_with fail
      refine HC3.out.mono ?_
      rintro en w5 ⟨pa, pc, rfl, hp, hs5⟩
      have H5 := Lib.hid (And.intro hp hs5)
      clear hp hs5 HC3
      have HC4 := Lib.hid (rscan_as w5 _ (.slice ba m bcp) m B (HB.out.2.1.still (HS4.out.trans H5.out.2)) HB.out.2.2.2 HB.out.2.2.1 (by have := HM.out; omega) HR2.out)
      go_wp2_with fail
      refine HC4.out.mono ?_
      rintro en w6 ⟨qa, qc, rfl, hq, hs6⟩
      have H6 := Lib.hid (And.intro hq hs6)
      clear hq hs6 HC4
      have HM1 := Lib.hid (show (∀ e ∈ R1.1, e.may = true) ∧ R1.1.length ≤ 100000 from by
        rw [← HR1.out]
        have := scanB_len (S.length + 1) S
        have := HS.out
        have := HV.out.2.2.1
        exact ⟨(scanB_is _ _ HV.out.2.1).2.1, by omega⟩)
      have HM2 := Lib.hid (show (∀ e ∈ R2.1, e.may = true) ∧ R2.1.length ≤ 100000 from by
        rw [← HR2.out]
        have := scanB_len (B.length + 1) B
        have := HM.out
        have := HB.out.1
        exact ⟨(scanB_is _ _ HB.out.2.2.1).2.1, by omega⟩)
      have HE1 := Lib.hid (same_entries (w := w6) _ _ R1.1 (((H3.out.1.still H4.out.2).still H5.out.2).still H6.out.2) ((H4.out.1.still H5.out.2).still H6.out.2) HM1.out.1 HM1.out.2)
      have HE2 := Lib.hid (fun w' (hs : Still w6 w') => same_entries (w := w') _ _ R2.1 ((H5.out.1.still H6.out.2).still hs) (H6.out.1.still hs) HM2.out.1 HM2.out.2)
      have HSE := Lib.hid (show Still W w6 from (HS4.out.trans H5.out.2).trans H6.out.2)
      generalize R1.1.length = r1 at *
      generalize R2.1.length = r2 at *
      generalize R1.2 = r3 at *
      generalize R2.2 = r4 at *
      go_wp2_with fail
      refine HE1.out.mono ?_
      rintro en w7 ⟨rfl, hs7⟩
      have HE3 := Lib.hid (HE2.out w7 hs7)
      have HS7 := Lib.hid (HSE.out.trans hs7)
      clear hs7 HE1 HE2
      go_wp2_with fail
      refine HE3.out.mono ?_
      rintro en w8 ⟨rfl, hs8⟩
      have F := Lib.hid (show BTrue W (.returned (.bool true)) w8 from ⟨rfl, HS7.out.trans hs8⟩)
      clear hs8 HE3
      go_wp2_with fail
      go_ret
      exact F.out
  have e1 : decide ((0 : Int) < (L : Int)) = true := decide_eq_true (by omega)
  have e2 : decide (0 < L) = true := decide_eq_true h0
  obtain ⟨g, o, cap, hg, hva⟩ := HR.out.1.form h0
  cases hg
  obtain ⟨k, hk⟩ : ∃ k : Nat, z % (L : Int) = (k : Int) := ⟨(z % (L : Int)).toNat, by have := Int.emod_nonneg z (show (L : Int) ≠ 0 by omega); omega⟩
  have hkl : k < L := by have := Int.emod_lt_of_pos z (show (0 : Int) < (L : Int) by omega); omega
  have hfr := hva.free k (by omega)
  obtain ⟨y, hy⟩ : ∃ y, S[k]? = some y := ⟨_, List.getElem?_eq_getElem (by have := HLL.out; omega)⟩
  have cy : wr.cell? ⟨g, o + k, none⟩ = some (.int .u8 y) := by rw [hva.cell k (by omega)]; exact bc_get hy
  have HV0 := Lib.hid (show Vec (wr.setCell ⟨g, o + k, none⟩ (.int .u8 t)) 1 (.slice (some ⟨g, o, none⟩) L sc) L (bc (S.set k t)) ∧ Byt (S.set k t) ∧ (S.set k t).length = L ∧ Still W (wr.setCell ⟨g, o + k, none⟩ (.int .u8 t)) from by
    refine ⟨?_, ?_, ?_, HR.out.2.2.2.2.setCell (.inr (HR.out.2.2.2.1 g rfl).1) _⟩
    · have := hva.set k (by omega) (.int .u8 t)
      rw [show (bc S).set k (.int .u8 t) = bc (S.set k t) from by unfold bc; rw [List.map_set]] at this
      exact .inr ⟨_, _, _, rfl, this⟩
    · intro x hx
      rcases List.mem_or_eq_of_mem_set hx with h | h
      · exact HR.out.2.1 x h
      · rw [h]
        exact HT.out
    · rw [List.length_set, HLL.out])
  have k0 : (0 : Int) ≤ (k : Int) := by omega
  have k1 : (k : Int) < (L : Int) := by omega
  have HZ := Lib.hid (show IntKind.i64.wrap z = z ∧ z.tmod (L : Int) = (k : Int) ∧ ((L : Int) == 0) = false ∧ (L == 0) = false from ⟨IntWalk.i64_in _ (by omega), by rw [Int.tmod_eq_emod_of_nonneg z0]; exact hk, by simp; omega, by simp; omega⟩)
  clear hva hkl hy hk h0
  obtain ⟨z2, z3, z4, z5⟩ := HZ.out
  go_upto_region 17 with fail
  have HV := HV0
  generalize (wr.setCell ⟨g, o + k, none⟩ (.int .u8 t)) = w2 at HV ⊢
  generalize S.set k t = S2 at HV
  clear HV0 z2 z3 z4 z5
  as_aux_lemma =>
    obtain ⟨R1, hR1⟩ : ∃ R, scanB (S2.length + 1) S2 = R := ⟨_, rfl⟩
    have HR1 := Lib.hid hR1
    clear hR1
    have HC1 := Lib.hid (scan_as w2 _ (.slice (some ⟨g, o, none⟩) L sc) L S2 (Vec.sl0 HV.out.1 (by decide)) (Vec.capOf HV.out.1) HV.out.2.1 (by have := HS.out; omega) HR1.out)
    go_wp2_with fail
    refine HC1.out.mono ?_
    rintro en w3 ⟨xa, xc, rfl, hx, hs3⟩
    have H3 := Lib.hid (And.intro hx hs3)
    clear hx hs3 HC1
    have HC2 := Lib.hid (rscan_as w3 _ (.slice (some ⟨g, o, none⟩) L sc) L S2 ((Vec.sl0 HV.out.1 (by decide)).still H3.out.2) (Vec.capOf HV.out.1) HV.out.2.1 (by have := HS.out; omega) HR1.out)
    go_wp2_with fail
    refine HC2.out.mono ?_
    rintro en w4 ⟨ya, yc, rfl, hy, hs4⟩
    have H4 := Lib.hid (And.intro hy hs4)
    clear hy hs4 HC2
    have HS4 := Lib.hid (show Still W w4 from (HV.out.2.2.2.trans H3.out.2).trans H4.out.2)
    have HC3 := Lib.hid (scan_as w4 _ (.slice ba m bcp) m B (HB.out.2.1.still HS4.out) HB.out.2.2.2 HB.out.2.2.1 (by have := HM.out; omega) HR2.out)
    go_wp2_with fail
    refine HC3.out.mono ?_
    rintro en w5 ⟨pa, pc, rfl, hp, hs5⟩
    have H5 := Lib.hid (And.intro hp hs5)
    clear hp hs5 HC3
    have HC4 := Lib.hid (rscan_as w5 _ (.slice ba m bcp) m B (HB.out.2.1.still (HS4.out.trans H5.out.2)) HB.out.2.2.2 HB.out.2.2.1 (by have := HM.out; omega) HR2.out)
    go_wp2_with fail
    refine HC4.out.mono ?_
    rintro en w6 ⟨qa, qc, rfl, hq, hs6⟩
    have H6 := Lib.hid (And.intro hq hs6)
    clear hq hs6 HC4
    have HM1 := Lib.hid (show (∀ e ∈ R1.1, e.may = true) ∧ R1.1.length ≤ 100000 from by
      rw [← HR1.out]
      have := scanB_len (S2.length + 1) S2
      have := HS.out
      have := HV.out.2.2.1
      exact ⟨(scanB_is _ _ HV.out.2.1).2.1, by omega⟩)
    have HM2 := Lib.hid (show (∀ e ∈ R2.1, e.may = true) ∧ R2.1.length ≤ 100000 from by
      rw [← HR2.out]
      have := scanB_len (B.length + 1) B
      have := HM.out
      have := HB.out.1
      exact ⟨(scanB_is _ _ HB.out.2.2.1).2.1, by omega⟩)
    have HE1 := Lib.hid (same_entries (w := w6) _ _ R1.1 (((H3.out.1.still H4.out.2).still H5.out.2).still H6.out.2) ((H4.out.1.still H5.out.2).still H6.out.2) HM1.out.1 HM1.out.2)
    have HE2 := Lib.hid (fun w' (hs : Still w6 w') => same_entries (w := w') _ _ R2.1 ((H5.out.1.still H6.out.2).still hs) (H6.out.1.still hs) HM2.out.1 HM2.out.2)
    have HSE := Lib.hid (show Still W w6 from (HS4.out.trans H5.out.2).trans H6.out.2)
    generalize R1.1.length = r1 at *
    generalize R2.1.length = r2 at *
    generalize R1.2 = r3 at *
    generalize R2.2 = r4 at *
    go_wp2_with fail
    refine HE1.out.mono ?_
    rintro en w7 ⟨rfl, hs7⟩
    have HE3 := Lib.hid (HE2.out w7 hs7)
    have HS7 := Lib.hid (HSE.out.trans hs7)
    clear hs7 HE1 HE2
    go_wp2_with fail
    refine HE3.out.mono ?_
    rintro en w8 ⟨rfl, hs8⟩
    have F := Lib.hid (show BTrue W (.returned (.bool true)) w8 from ⟨rfl, HS7.out.trans hs8⟩)
    clear hs8 HE3
    go_wp2_with fail
    go_ret
    exact F.out
end Go.Proofs.YtojkggppcmdepaaGreat

namespace Go.Proofs.YtojkggppcmdepaaGreat
open Go.RowKit Go.Wh Go.ChangeShapes Go.WideShapes Go.ChangeAt

theorem scansOwn : ownKnob Tryz.prog.godebug = none := by kernel_rfl
theorem scansLaid : laidOutB Tryz.prog = true := by kernel_rfl
theorem u16_wf {z : Int} (h : (Lit.int .u16 z).wf = true) : 0 ≤ z ∧ z ≤ 65535 := by
  have e1 : IntKind.u16.min = 0 := by decide
  have e2 : IntKind.u16.max = 65535 := by decide
  simp only [Lit.wf, e1, e2, Bool.and_eq_true, decide_eq_true_eq] at h
  omega
theorem trodAll_four' {H : Type} {enc : TypeId × Value → H} {P : Program} {w : World} {base : Nat} {spare : Nat → Bool} {held : Bool} {t t' t'' t3 : TypeId} {args : Array Value} {ds : List (DataW H)} {ps : List MemPlace} (h : DataW.TrodAll enc P w base spare held [t, t', t'', t3] args.toList ds ps) :
    ∃ v v' v'' v3 d d' d'' d3 p p' p'' p3, args = #[v, v', v'', v3] ∧ ds = [d, d', d'', d3] ∧ ps = p ++ p' ++ p'' ++ p3 ∧ DataW.Trod enc P w base spare held t v d p ∧ DataW.Trod enc P w base spare held t' v' d' p' ∧ DataW.Trod enc P w base spare held t'' v'' d'' p'' ∧ DataW.Trod enc P w base spare held t3 v3 d3 p3 := by
  obtain ⟨v, vs, d, ds', p, q, hargs, rfl, rfl, hd, hrest⟩ := trodAll_cons h
  obtain ⟨v', vs', d', ds'', p', q', rfl, rfl, rfl, hd', hrest'⟩ := trodAll_cons hrest
  obtain ⟨v'', vs'', d'', dsc, p'', q'', rfl, rfl, rfl, hd'', hrest''⟩ := trodAll_cons hrest'
  obtain ⟨v3, vs3, d3, ds3, p3, q3, rfl, rfl, rfl, hd3, hrest3⟩ := trodAll_cons hrest''
  obtain ⟨rfl, rfl, rfl⟩ := trodAll_nil hrest3
  exact ⟨v, v', v'', v3, d, d', d'', d3, p, p', p'', p3, by cases args; simp_all, rfl, by simp, hd, hd', hd'', hd3⟩
set_option maxRecDepth 100000 in
theorem trailScans_lifted (os : Os) (started : os.Started) (H : Type) (enc : TypeId × Value → H) :
    ReturnsInHanded {} Tryz.checked os 3 .any (Rows.trailScansSpec.pre6 enc Tryz.prog Tryz.f3 Rows.trailScansRow.domain false) (Rows.trailScansSpec.post enc Tryz.prog Tryz.f3 false true false false) := by
  refine returnsInHanded_of_change (C := Tryz.checked) scansOwn started (by kernel_rfl) Tryz.func3
    (ChangeSpec.witness6 (enc := enc) (C := Tryz.checked) false ⟨#[], #[.slice none 0 0, .slice none 0 0, .int .u16 0, .int .u8 0], []⟩ 8 (by kernel_rfl) (by kernel_rfl) (by kernel_rfl) (by kernel_rfl)) ?_
  intro W base args ds gs before hval0 hW hcnd _
  have hval : ∀ (j : Nat) t v, Tryz.f3.params[j]? = some t → args[j]? = some v → Value.okWide Tryz.prog W .any base t v := hval0
  have hW' := hW
  obtain ⟨p, q, hA0, hV, rfl, hfz, hnd⟩ := hW
  have hA : DataW.TrodAll enc Tryz.prog W 0 (fun _ => true) true Tryz.f3.params.toList args.toList ds p := hA0
  rw [Tryz.params3] at hA hval
  obtain ⟨v0, v1, v2, v3, d0, d1, d2, d3, p0, p1, p2, p3, rfl, rfl, rfl, h0, h1, h2, h3⟩ := trodAll_four' hA
  obtain ⟨a0, c0, es, rfl, he⟩ := open_entries (hval 0 22 v0 rfl rfl) h0
  obtain ⟨a1, c1, l1, rfl, hb1, hb2, hb3⟩ := open_row8 (hval 1 23 v1 rfl rfl) h1
  obtain ⟨n2, rfl, rfl, rfl, w2⟩ := open_int Tryz.underlying24 (hval 2 24 v2 rfl rfl) h2
  obtain ⟨n3, rfl, rfl, rfl, w3⟩ := open_int Tryz.underlying5 (hval 3 5 v3 rfl rfl) h3
  have walk : Calls Tryz.prog 3 #[.slice a0 es.length c0, .slice a1 l1.length c1, .int .u16 n2, .int .u8 n3] W (BTrue W) := by
    exact scans_walk W a0 a1 c0 c1 _ _ es l1 n2 n3 rfl he rfl hb1 hb2 hb3 (u16_wf w2).1 (u16_wf w2).2 (byte_wf w3).1 (by have := byte_wf w3; omega)
  refine walk.mono fun e W' ⟨he, bel⟩ => ?_
  subst he
  exact ⟨_, rfl, law_post scansLaid (t := 4) rfl Tryz.underlying4 rfl (by intro t ht; rw [show Tryz.f3.params.toList = [22, 23, 24, 5] from rfl] at ht; simp at ht; rcases ht with rfl | rfl | rfl | rfl; all_goals exact ⟨by kernel_rfl, of_decide_eq_true (by kernel_rfl)⟩) hW' rfl (Only.below bel (Nat.le_refl _) fun _ _ e => e)⟩

theorem trailScans_holds : Rows.TrailScansSaid :=
  OpenClaim.holds_of_wide 3 Tryz.f3 rfl rfl rfl rfl rfl rfl rfl ⟨rfl, rfl, rfl, rfl, rfl⟩ rfl rfl rfl rfl rfl (by kernel_rfl) Tryz.func3 (by kernel_rfl)
    (of_decide_eq_true (by kernel_rfl)) (by unfold Func.isWrapper; first | (rw [if_pos (by decide +kernel)]; kernel_rfl) | (rw [if_neg (by decide +kernel)]; exact ⟨rfl, rfl⟩))
    (fun os started H enc _ => trailScans_lifted os started H enc)
#print axioms trailScans_holds
end Go.Proofs.YtojkggppcmdepaaGreat
