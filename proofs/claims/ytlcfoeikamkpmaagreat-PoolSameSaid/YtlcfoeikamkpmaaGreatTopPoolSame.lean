/- Two pools with the same pages: plain. No program. No conditions. Rows of bytes that came in, empty or not. Conditions: it can be read as data. A row of deeds that came in (numbers, a key, raw bytes): what of it is looked at. Conditions: it can be read as data. With fewer frames pages are the same as with many: the law's walk. Conditions: a slice of deeds that lies in memory, a byte. PoolSame: for every input the law returns true and its arguments read as before. No conditions beyond the row's. -/
import Derived.Test.YtlcfoeikamkpmaaGreatPr28
import Derived.Deep.Slices
import Derived.Deep.Fields
import Derived.ChangeSame
import Derived.BigQuiet
namespace Go.Proofs.YtlcfoeikamkpmaaGreat
open Go.RowKit Go.Wh Go.Maps

structure SamS (cf : PCf) (s : PSt) (C : Int → PPg) (n i L : Nat) : Prop where
 good : Good cf s C
 len : s.H.l.length = L
 es : s.es.length = n
 str : (streamB s.es).length = n * 25
 lsn : ∀ k, (C k).lsn ≤ i
section
variable {cf : PCf} {s : PSt} {C : Int → PPg} {n i L : Nat}
theorem sam_app (h : SamS cf s C n i L) (k x : Int) : SamS cf { s with es := s.es ++ [nE k x] } C (n + 1) i L :=
 ⟨append_well h.good _, h.len, by show (s.es ++ [nE k x]).length = _; rw [List.length_append, h.es]; rfl, stream_nE h.str k x, h.lsn⟩
theorem sam_up (h : SamS cf s C n i L) : SamS cf s C n (i + 1) L := ⟨h.good, h.len, h.es, h.str, fun k => by have := h.lsn k; omega⟩
theorem sam_set (h : SamS cf s C n i L) {k : Int} (h0 : 0 ≤ k) (h1 : k < cf.pages) {j : Int} (j0 : 0 ≤ j) (j4 : j < 4) (z : Int) (hi : i < 1000) :
 ∃ s', s.set cf k j (rowC (97 + z % 26) [] []) ((i : Int) + 1) = (0, s') ∧ SamS cf s' (putC C k j.toNat (rowC (97 + z % 26) [] []) ((i : Int) + 1)) n (i + 1) L := by
 have hz : lsnMay ((i : Int) + 1) = true := by
  unfold lsnMay
  simp only [Bool.and_eq_true, decide_eq_true_eq]
  omega
 obtain ⟨l1, l2, l3, l4⟩ := let_ok z
 obtain ⟨s', e, g1, g2, g3, g4, -, -, -, g8⟩ := set_well h.good h0 h1 j0 j4 (b := rowC (97 + z % 26) [] []) (z := (i : Int) + 1) (.inr ⟨l1, l2, l3, l4⟩) hz (by have := h.lsn k; omega)
 refine ⟨s', e, ⟨g1, by rw [g3]; exact h.len, by rw [g2, h.es], by rw [g2, h.str], fun q => ?_⟩⟩
 unfold putC
 split
 · show (i : Int) + 1 ≤ ((i + 1 : Nat) : Int)
   omega
 · have := h.lsn q
   omega
theorem sam_page (h : SamS cf s C n i L) {k : Int} (h0 : 0 ≤ k) (h1 : k < cf.pages) : ∃ s', s.page cf k = (0, C k, s') ∧ SamS cf s' C n i L := by
 obtain ⟨s', e, g1, g2, g3, -, -, -⟩ := page_well h.good h0 h1
 exact ⟨s', e, ⟨g1, by rw [g3]; exact h.len, by rw [g2, h.es], by rw [g2, h.str], h.lsn⟩⟩
end
theorem dif3 : Dif 5 6 7 8 := ⟨by decide, by decide, by decide, by decide, by decide, by decide, by decide, by decide, by decide, by decide⟩
section
variable {W : World} {c c' : Nat → Nat} {w w' : World} {pb d : Nat} {t : Option Nat} {cf : PCf} {s : PSt}
theorem PX.far (h : PX W c 5 6 7 8 w pb d t cf s) (hs : Stp (fun i => i = 1 ∨ i = 2 ∨ i = 3) (fun i => i = 1 ∨ i = 2 ∨ i = 3 ∨ i = 4) c c' w w') : PX W c' 5 6 7 8 w' pb d t cf s :=
 h.keep dif3 hs (by rintro (e | e | e) <;> cases e) (by rintro (e | e | e) <;> cases e) (by rintro (e | e | e) <;> cases e) (by rintro (e | e | e) <;> cases e) (by rintro (e | e | e) <;> cases e) (by rintro (e | e | e | e) <;> cases e) (by rintro (e | e | e | e) <;> cases e) (by rintro (e | e | e | e) <;> cases e)
theorem PX.near (h : PX W c 1 2 3 4 w pb d t cf s) (hs : Stp (fun i => i = 5 ∨ i = 6 ∨ i = 7) (fun i => i = 5 ∨ i = 6 ∨ i = 7 ∨ i = 8) c c' w w') : PX W c' 1 2 3 4 w' pb d t cf s :=
 h.keep dif1 hs (by rintro (e | e | e) <;> cases e) (by rintro (e | e | e) <;> cases e) (by rintro (e | e | e) <;> cases e) (by rintro (e | e | e) <;> cases e) (by rintro (e | e | e) <;> cases e) (by rintro (e | e | e | e) <;> cases e) (by rintro (e | e | e | e) <;> cases e) (by rintro (e | e | e | e) <;> cases e)
end
def cfD : PCf := ⟨0, 8, 20, 20, true⟩
section
variable {X K : Nat → Prop} {c c' : Nat → Nat} {a b : Nat} {w w' : World} {d t : Nat} {D : PDk}
theorem dg_keep (h : DgX (Cs c a) d D w) (hl : Low c w) (hs : Stp X K c c' w w') (xa : ¬ X a) (ka : ¬ K a) (a0 : a ≠ 0) : DgX (Cs c' a) d D w' := by
 rw [hs.same hl a0 ka]
 exact h.only hs.only (hs.off xa)
theorem tl_keep {at_ n st : Nat} {es : List PE} (h : TlX (Cs c b) t d at_ n es st w) (hl : Low c w) (hs : Stp X K c c' w w') (xb : ¬ X b) (kb : ¬ K b) (b0 : b ≠ 0) : TlX (Cs c' b) t d at_ n es st w' := by
 rw [hs.same hl b0 kb]
 exact h.only hs.only (hs.off xb)
theorem dt_new (hl : Low c w) (hd : DgX (Cs c a) d (newD 40) w) (ht : TlX (Cs c b) t d 20 20 [] 0 w) : Dt c a b w d (some t) cfD ⟨newD 40, [], 0, mkHd PFr.void 1⟩ :=
 ⟨hl, hd, fun t' e => (by cases e; exact ht), rfl, newD_fine 40, newD_byt 40, by decide, fun _ => ⟨by decide, by decide⟩, by decide⟩
theorem sam_new {n : Nat} (hn : 0 < n) : SamS cfD ⟨newD 40, [], 0, mkHd PFr.void n⟩ (fun _ => PPg.void) 0 0 n :=
 ⟨new_well (by decide) (by decide) hn, by show (List.replicate _ _).length = n; rw [List.length_replicate], rfl, rfl, fun _ => Int.le_refl 0⟩
end
theorem dirty_le (H : Hd PFr) : (dirtyD H).length ≤ H.l.length := by
 unfold dirtyD Hd.keys
 refine Nat.le_trans (List.length_filterMap_le _ _) ?_
 rw [List.length_map]
 exact List.length_filter_le _ _
end Go.Proofs.YtlcfoeikamkpmaaGreat

namespace Go.Proofs.YtlcfoeikamkpmaaGreat
open Go.RowKit Go.Wh Go.ChangeShapes Go.WideShapes Go.Deep

theorem choose_rw {α : Type} {P : Nat → α → Prop} {m : Nat} (hm : 0 < m) (h : ∀ i, i < m → ∃ a, P i a) : ∃ A : Nat → α, ∀ i, i < m → P i (A i) := by
 obtain ⟨a0, -⟩ := h 0 hm
 have key : ∀ i, ∃ a, i < m → P i a := fun i => by
  by_cases hi : i < m
  · obtain ⟨a, ha⟩ := h i hi
    exact ⟨a, fun _ => ha⟩
  · exact ⟨a0, fun e => absurd e hi⟩
 exact ⟨fun i => (key i).choose, fun i hi => (key i).choose_spec hi⟩
section
variable {H : Type} {enc : TypeId × Value → H}
theorem open_sls {P : Program} {W : World} {t e : TypeId} {sz : Nat} {fuel : Nat} {cs : List Value} {x : DataW H × List MemPlace} (ht : P.underlying t = some (.slice e)) (hsz : P.cellsOf e = sz) (hs0 : 0 < sz) (h : DataW.trod enc P W 0 (fun _ => true) true fuel t cs = some x)
 {α : Type} (f : α → List Value) (hfl : ∀ a, (f a).length = sz) (R : α → Prop) (hf : ∀ n cs' y, cs'.length = sz → DataW.trod enc P W 0 (fun _ => true) true n e cs' = some y → ∃ a, cs' = f a ∧ R a) :
 ∃ (dv : Value) (m : Nat) (l : List α), cs = [dv] ∧ Sl W (fun g => g < W.heap.size) sz dv m (l.flatMap f) ∧ l.length = m ∧ (∀ a ∈ l, R a) ∧ Cap m dv := by
 rcases open_slice ht h with ⟨rfl, -⟩ | ⟨a, len, cap, m, n, D, Pl, rfl, -, hle, -, hm, -, hcell⟩
 · exact ⟨_, 0, [], rfl, Sl.nil, rfl, (fun a ha => by cases ha), ⟨_, _, rfl, Nat.le_refl _⟩⟩
 simp only [if_true] at hm
 subst hm
 rcases Nat.eq_zero_or_pos len with h0 | h0
 · subst h0
   exact ⟨_, 0, [], rfl, Sl.empty (fun e => by cases e), rfl, (fun a ha => by cases ha), ⟨_, _, rfl, Nat.zero_le _⟩⟩
 obtain ⟨b, off, spot⟩ := a
 have hspot : spot = none := by
  obtain ⟨cs0, hc0, _⟩ := hcell 0 (by omega)
  rw [hsz] at hc0
  obtain ⟨_, hlen0, hat0⟩ := World.cells?_some hc0
  have g := hat0 0 (by omega)
  rw [List.getElem?_eq_getElem (by omega)] at g
  have := World.cell?_spot g
  simpa [Addr.add] using this
 subst hspot
 have hadd : ∀ j, (⟨b, off, none⟩ : Addr).add j = ⟨b, off + j, none⟩ := fun j => by unfold Addr.add; split <;> simp_all
 have hel : ∀ i, i < len → ∃ a : α, (∀ r, r < sz → W.cell? ⟨b, off + i * sz + r, none⟩ = (f a)[r]?) ∧ R a := fun i hi => by
  obtain ⟨cs', hc, htr⟩ := hcell i (by omega)
  rw [hsz] at hc
  obtain ⟨_, hlen, hat⟩ := World.cells?_some hc
  obtain ⟨a, rfl, hr⟩ := hf n cs' _ hlen htr
  refine ⟨a, fun r hr => ?_, hr⟩
  have := hat r (by omega)
  rw [hadd] at this
  rw [← this]
  unfold Addr.add
  split <;> simp_all
 obtain ⟨A, hA⟩ := choose_rw h0 hel
 have hb : b < W.heap.size := by
  have h1 := (hA 0 h0).1 0 hs0
  rw [List.getElem?_eq_getElem (by rw [hfl]; exact hs0)] at h1
  exact lt_of_cell h1
 refine ⟨_, len, (List.range len).map A, rfl, ⟨by rw [flat_len hfl]; simp, .inr ⟨b, off, _, rfl, fun _ => ⟨hb, hb⟩, fun j u hj => ?_⟩⟩, by simp, fun a ha => ?_, ⟨_, _, rfl, hle⟩⟩
 · have hjl := (List.getElem?_eq_some_iff.1 hj).1
   rw [flat_len hfl] at hjl
   simp only [List.length_map, List.length_range] at hjl
   have hq : j / sz < len := Nat.div_lt_of_lt_mul (by rw [Nat.mul_comm]; exact hjl)
   have hr : j % sz < sz := Nat.mod_lt _ hs0
   have hjd : j / sz * sz + j % sz = j := by rw [Nat.mul_comm]; exact Nat.div_add_mod j sz
   have h1 := (hA (j / sz) hq).1 (j % sz) hr
   rw [Nat.add_assoc, hjd] at h1
   rw [h1, ← hj]
   have h2 := flat_get hfl ((List.range len).map A) (j / sz) (j % sz) (A (j / sz)) (by rw [List.getElem?_map, List.getElem?_range hq]; rfl) hr
   rw [hjd] at h2
   exact h2.symm
 · obtain ⟨i, hi, rfl⟩ := List.mem_map.1 ha
   exact (hA i (List.mem_range.1 hi)).2
variable {W : World} {fuel : Nat} {cs : List Value} {x : DataW H × List MemPlace}
theorem ks_int : Tryz.prog.cellsOf 3 = 1 := by kernel_rfl
theorem ks_u8 : Tryz.prog.cellsOf 5 = 1 := by kernel_rfl
theorem flat_bcs : ∀ l : List Int, l.flatMap (fun z => [Value.int .u8 z]) = bc l
 | [] => rfl
 | a :: l => by
  rw [List.flatMap_cons, flat_bcs l]
  rfl
set_option maxRecDepth 100000 in
theorem open_b8 {base : Nat} {v : Value} {d : DataW H} {p : List MemPlace} (hval : Value.okWide Tryz.prog W .any base 22 v) (h : DataW.Trod enc Tryz.prog W 0 (fun _ => true) true 22 v d p) :
 ∃ (a : Option Addr) (m c : Nat) (l : List Int), v = .slice a m c ∧ Sl W (fun g => g < W.heap.size) 1 v m (bc l) ∧ l.length = m ∧ Byt l := by
 obtain ⟨a0, len0, cap0, rfl⟩ := okWide_slice Tryz.underlying22 hval
 obtain ⟨fuel, hf⟩ := h
 obtain ⟨dv, m, l, h1, h2, h3, h4, h5⟩ := open_sls (α := Int) Tryz.underlying22 ks_u8 (by decide) hf (fun z => [.int .u8 z]) (fun _ => rfl) (fun z => 0 ≤ z ∧ z ≤ 255) (fun n cs' y _ ht => by
  obtain ⟨z, e, _, hw⟩ := DataW.trod_int Tryz.underlying5 ht
  have := byte_wf hw
  exact ⟨z, e, by omega, by omega⟩)
 rw [flat_bcs] at h2
 have h1' : Value.slice a0 len0 cap0 = dv := by
  have : [Value.slice a0 len0 cap0] = [dv] := h1
  exact (List.cons.inj this).1
 obtain ⟨a, c, e⟩ := h2.form
 rw [← h1'] at e h2
 have e2 : len0 = m := (Value.slice.inj e).2.1
 subst e2
 exact ⟨a0, _, cap0, l, rfl, h2, h3, h4⟩
end
end Go.Proofs.YtlcfoeikamkpmaaGreat

namespace Go.Proofs.YtlcfoeikamkpmaaGreat
open Go.RowKit Go.Wh Go.ChangeShapes Go.WideShapes Go.Deep

section
variable {H : Type} {enc : TypeId × Value → H}
structure PSd where
 kind : Int
 n : Int
 at_ : Int
 lsn : Int
 key : Int
 rv : Value
def PSd.cells (D : PSd) : List Value := [.int .i64 D.kind, .int .i64 D.n, .int .i64 D.at_, .int .i64 D.lsn, .int .u8 D.key, D.rv]
def PSd.fine (D : PSd) : Prop := 0 ≤ D.key ∧ D.key ≤ 255 ∧ -9223372036854775808 ≤ D.kind ∧ D.kind ≤ 9223372036854775807
variable {W : World} {fuel : Nat} {cs : List Value} {x : DataW H × List MemPlace}
theorem ks_sd : Tryz.prog.cellsOf 56 = 6 := by kernel_rfl
theorem ints_wf {z : Int} (h : (Lit.int .i64 z).wf = true) : -9223372036854775808 ≤ z ∧ z ≤ 9223372036854775807 := by
 have e1 : IntKind.i64.min = -9223372036854775808 := by decide
 have e2 : IntKind.i64.max = 9223372036854775807 := by decide
 simp only [Lit.wf, e1, e2, Bool.and_eq_true, decide_eq_true_eq] at h
 omega
set_option maxRecDepth 100000 in
theorem open_sd (hlen : cs.length = 6) (h : DataW.trod enc Tryz.prog W 0 (fun _ => true) true fuel 56 cs = some x) : ∃ D : PSd, cs = D.cells ∧ D.fine := by
 obtain ⟨xs, n', _, _, _, hxl, hfld⟩ := DataW.trod_struct Tryz.underlying56 h
 match cs, hlen with
 | [v0, v1, v2, v3, v4, v5], _ =>
  have hxl' : xs.length = 6 := hxl
  match xs, hxl' with
  | [y0, y1, y2, y3, y4, y5], _ =>
   have g0 := hfld 0 ⟨"Kind", 3, 0, false, "", "", 0⟩ rfl
   have g1 := hfld 1 ⟨"N", 3, 1, false, "", "", 8⟩ rfl
   have g2 := hfld 2 ⟨"At", 3, 2, false, "", "", 16⟩ rfl
   have g3 := hfld 3 ⟨"LSN", 3, 3, false, "", "", 24⟩ rfl
   have g4 := hfld 4 ⟨"Key", 5, 4, false, "", "", 32⟩ rfl
   simp only [ks_int, List.drop_zero, List.take_succ_cons, List.take_zero, List.getElem?_cons_zero] at g0
   simp only [ks_int, List.drop_succ_cons, List.drop_zero, List.take_succ_cons, List.take_zero, List.getElem?_cons_succ, List.getElem?_cons_zero] at g1
   simp only [ks_int, List.drop_succ_cons, List.drop_zero, List.take_succ_cons, List.take_zero, List.getElem?_cons_succ, List.getElem?_cons_zero] at g2
   simp only [ks_int, List.drop_succ_cons, List.drop_zero, List.take_succ_cons, List.take_zero, List.getElem?_cons_succ, List.getElem?_cons_zero] at g3
   simp only [ks_u8, List.drop_succ_cons, List.drop_zero, List.take_succ_cons, List.take_zero, List.getElem?_cons_succ, List.getElem?_cons_zero] at g4
   obtain ⟨c0, e0, _, b0⟩ := DataW.trod_int Tryz.underlying3 g0
   have e0 := (List.cons.inj e0).1
   subst e0
   obtain ⟨c1, e1, _, b1⟩ := DataW.trod_int Tryz.underlying3 g1
   have e1 := (List.cons.inj e1).1
   subst e1
   obtain ⟨c2, e2, _, b2⟩ := DataW.trod_int Tryz.underlying3 g2
   have e2 := (List.cons.inj e2).1
   subst e2
   obtain ⟨c3, e3, _, b3⟩ := DataW.trod_int Tryz.underlying3 g3
   have e3 := (List.cons.inj e3).1
   subst e3
   obtain ⟨c4, e4, _, b4⟩ := DataW.trod_int Tryz.underlying5 g4
   have e4 := (List.cons.inj e4).1
   subst e4
   have hb := byte_wf b4
   have hk := ints_wf b0
   exact ⟨⟨c0, c1, c2, c3, c4, v5⟩, rfl, by show 0 ≤ c4; omega, by show c4 ≤ 255; omega, hk.1, hk.2⟩
set_option maxRecDepth 100000 in
theorem open_sds {base : Nat} {v : Value} {d : DataW H} {p : List MemPlace} (hval : Value.okWide Tryz.prog W .any base 54 v) (h : DataW.Trod enc Tryz.prog W 0 (fun _ => true) true 54 v d p) :
 ∃ (a : Option Addr) (c : Nat) (l : List PSd), v = .slice a l.length c ∧ Sl W (fun g => g < W.heap.size) 6 v l.length (l.flatMap PSd.cells) ∧ ∀ D ∈ l, D.fine := by
 obtain ⟨a0, len0, cap0, rfl⟩ := okWide_slice Tryz.underlying54 hval
 obtain ⟨fuel, hf⟩ := h
 obtain ⟨dv, m, l, h1, h2, h3, h4, h5⟩ := open_sls Tryz.underlying54 ks_sd (by decide) hf PSd.cells (fun _ => rfl) PSd.fine (fun n cs' y hl ht => open_sd hl ht)
 have h1' : Value.slice a0 len0 cap0 = dv := by
  have : [Value.slice a0 len0 cap0] = [dv] := h1
  exact (List.cons.inj this).1
 subst h3
 obtain ⟨a, c, e⟩ := h2.form
 rw [← h1'] at e h2
 have e2 : len0 = l.length := (Value.slice.inj e).2.1
 subst e2
 exact ⟨a0, cap0, l, rfl, h2, h4⟩
theorem sds_get {l : List PSd} {i j : Nat} {D : PSd} {u : Value} (hi : l[i]? = some D) (hj : j < 6) (hu : D.cells[j]? = some u) : (l.flatMap PSd.cells)[i * 6 + j]? = some u := by
 rw [flat_get (sz := 6) (fun _ => rfl) l i j D hi hj]
 exact hu
end
end Go.Proofs.YtlcfoeikamkpmaaGreat

namespace Go.Proofs.YtlcfoeikamkpmaaGreat
open Go.RowKit Go.Wh Go.Maps

theorem one_page {w : World} {Q : Nat → Prop} {v0 v1 v2 v3 : Value} {l : List (List Int)} (h : PgIs w Q [v0, v1, v2, v3] l) (z : Int) : (#[v0, v1, v2, v3, .int .i64 z] : Array Value).toList.all (·.oneCell') = true := by
 have := pg_one h
 rw [List.all_eq_true]
 intro y hy
 simp only [List.mem_cons, List.not_mem_nil, or_false] at hy
 rcases hy with rfl | rfl | rfl | rfl | rfl
 · exact this _ (by simp)
 · exact this _ (by simp)
 · exact this _ (by simp)
 · exact this _ (by simp)
 · rfl
def SamRel (W : World) (d t pb g u qb L i : Nat) (wr : World) : Prop := ∃ c s1 s2 C n, PX W c 1 2 3 4 wr pb d (some t) cfD s1 ∧ PX W c 5 6 7 8 wr qb g (some u) cfD s2 ∧ SamS cfD s1 C n i L ∧ SamS cfD s2 C n i 30 ∧ n ≤ i
theorem SamRel.up {W : World} {d t pb g u qb L i : Nat} {wr : World} (h : SamRel W d t pb g u qb L i wr) : SamRel W d t pb g u qb L (i + 1) wr := by
 obtain ⟨c, s1, s2, C, n, h1, h2, h3, h4, h5⟩ := h
 exact ⟨c, s1, s2, C, n, h1, h2, sam_up h3, sam_up h4, by omega⟩
theorem SamRel.calm {W : World} {d t pb g u qb L i : Nat} {wr w' : World} (h : SamRel W d t pb g u qb L i wr) (hs : Still wr w') : SamRel W d t pb g u qb L i w' := by
 obtain ⟨c, s1, s2, C, n, h1, h2, h3, h4, h5⟩ := h
 exact ⟨c, s1, s2, C, n, h1.calm dif1 hs, h2.calm dif3 hs, h3, h4, h5⟩
theorem SamRel.st {W : World} {d t pb g u qb L i : Nat} {wr : World} (h : SamRel W d t pb g u qb L i wr) : Still W wr := by
 obtain ⟨c, s1, s2, C, n, h1, -⟩ := h
 exact h1.lg.still
set_option maxHeartbeats 16000000 in
set_option maxRecDepth 100000 in
theorem same_walk (W : World) (xa : Option Addr) (m xc : Nat) (L : List PSd) (fz : Int) (hl : L.length = m ∧ Sl W (fun g => g < W.heap.size) 6 (.slice xa m xc) m (L.flatMap PSd.cells) ∧ ∀ D ∈ L, D.fine) (f0 : 0 ≤ fz) :
 Calls Tryz.prog 5 #[.slice xa m xc, .int .u8 fz] W (BTrue W) := by
 have HBG := Lib.hid (begun_any W)
 have HL := Lib.hid hl
 clear hl
 by_cases hbad : 30 < m
 · have b1 : decide ((30 : Int) < (m : Int)) = true := decide_eq_true (by omega)
   have b2 : decide (30 < m) = true := decide_eq_true hbad
   clear hbad
   go_enter Tryz.func5, Tryz.ntmps5
   go_wp2_with fail
   refine HBG.out.mono ?_
   rintro en w1 ⟨rfl, hs1⟩
   have F := Lib.hid (show BTrue W (.returned (.bool true)) w1 from ⟨rfl, hs1⟩)
   clear hs1 HBG
   go_wp2_with fail
   go_ret
   exact F.out
 have b1 : decide ((30 : Int) < (m : Int)) = false := decide_eq_false (by omega)
 have b2 : decide (30 < m) = false := decide_eq_false hbad
 have HM := Lib.hid (show m ≤ 30 from by omega)
 clear hbad
 obtain ⟨f3, hf3⟩ : ∃ k : Nat, fz % 3 = (k : Int) := ⟨(fz % 3).toNat, by omega⟩
 have HFF := Lib.hid (show f3 < 3 from by omega)
 have z3 : fz.tmod 3 = (f3 : Int) := by rw [Int.tmod_eq_emod_of_nonneg f0]; exact hf3
 have y3 : IntKind.i64.wrap (f3 : Int) = (f3 : Int) := IntWalk.i64_in _ (by have := HFF.out; omega)
 have x3 : IntKind.i64.wrap (1 + (f3 : Int)) = 1 + (f3 : Int) := IntWalk.i64_in _ (by have := HFF.out; omega)
 clear hf3 f0
 go_enter Tryz.func5, Tryz.ntmps5
 go_wp2_with fail
 refine HBG.out.mono ?_
 rintro en w1 ⟨rfl, hs1⟩
 have L1 := Lg.start hs1
 have HN := Lib.hid (dnew_any L1.low 1 (fun _ e => by cases e) 40 (by decide) rfl)
 have H1 := Lib.hid L1
 clear hs1 L1 HBG
 go_wp2_with fail
 refine HN.out.mono ?_
 rintro en w2 ⟨d, c2, rfl, hs2, hd2⟩
 have L2 := H1.out.step hs2 fun e => e
 have n5 := Lg.none (j := 5) hs2 H1.out.low (fun _ e => by cases e) (fun e => by cases e) (by decide)
 have n2 := Lg.none (j := 2) hs2 H1.out.low (fun _ e => by cases e) (fun e => by cases e) (by decide)
 have n6 := Lg.none (j := 6) hs2 H1.out.low (fun _ e => by cases e) (fun e => by cases e) (by decide)
 have HN2 := Lib.hid (dnew_any L2.low 5 n5 40 (by decide) rfl)
 have H2 := Lib.hid (And.intro L2 (And.intro hd2 (And.intro n2 n6)))
 clear hs2 hd2 L2 n2 n5 n6 HN H1
 go_wp2_with fail
 refine HN2.out.mono ?_
 rintro en w3 ⟨gd, c3, rfl, hs3, hg3⟩
 have L3 := H2.out.1.step hs3 fun e => e
 have hd3 := dg_keep H2.out.2.1 H2.out.1.low hs3 (fun e => e) (fun e => by cases e) (by decide)
 have m2 := Lg.none (j := 2) hs3 H2.out.1.low H2.out.2.2.1 (fun e => by cases e) (by decide)
 have m6 := Lg.none (j := 6) hs3 H2.out.1.low H2.out.2.2.2 (fun e => by cases e) (by decide)
 have HO := Lib.hid (dopen_new (b := 2) (m := 40) (at_ := 20) (n := 20) L3.low hd3 (by decide) (by decide) m2 (by decide) (by decide) (by decide) rfl rfl)
 have H3 := Lib.hid (And.intro L3 (And.intro hg3 m6))
 clear hs3 hd3 hg3 L3 m2 m6 HN2 H2
 go_wp2_with fail
 refine HO.out.mono ?_
 rintro en w4 ⟨t, la, lc, c4, rfl, hs4, hd4, ht4⟩
 have L4 := H3.out.1.step hs4 fun e => by cases e
 have hg4 := dg_keep H3.out.2.1 H3.out.1.low hs4 (fun e => by cases e) (by rintro (e | e) <;> cases e) (by decide)
 have k6 := Lg.none (j := 6) hs4 H3.out.1.low H3.out.2.2 (by rintro (e | e) <;> cases e) (by decide)
 have HO2 := Lib.hid (dopen_new (b := 6) (m := 40) (at_ := 20) (n := 20) L4.low hg4 (by decide) (by decide) k6 (by decide) (by decide) (by decide) rfl rfl)
 have H4 := Lib.hid (And.intro L4 (And.intro hd4 ht4))
 clear hs4 hd4 ht4 hg4 L4 k6 HO H3
 go_wp2_with fail
 refine HO2.out.mono ?_
 rintro en w5 ⟨u, lb, ld, c5, rfl, hs5, hg5, hu5⟩
 have L5 := H4.out.1.step hs5 fun e => by cases e
 have hd5 := dg_keep H4.out.2.1 H4.out.1.low hs5 (fun e => by cases e) (by rintro (e | e) <;> cases e) (by decide)
 have ht5 := tl_keep H4.out.2.2 H4.out.1.low hs5 (fun e => by cases e) (by rintro (e | e) <;> cases e) (by decide)
 have D1 := dt_new L5.low hd5 ht5
 have D2 := dt_new L5.low hg5 hu5
 have HNP := Lib.hid (px_new (m := 3) (r := 4) L5 D1 dif1 (1 + (f3 : Int)) (1 + f3) (by have := HFF.out; omega) rfl rfl)
 have H5 := Lib.hid D2
 clear hs5 hd5 ht5 hg5 hu5 L5 D1 D2 HO2 H4
 go_wp2_with fail
 refine HNP.out.mono ?_
 rintro en w6 ⟨pb, c6, rfl, hs6, hx6⟩
 have D6 := H5.out.keep hs6 (fun e => e) (fun e => e) (fun e => by cases e) (fun e => by cases e) (by decide) (by decide)
 have HNQ := Lib.hid (px_new (m := 7) (r := 8) hx6.lg D6 dif3 30 30 (by decide) rfl rfl)
 have H6 := Lib.hid hx6
 clear hs6 hx6 D6 HNP H5
 go_wp2_with fail
 refine HNQ.out.mono ?_
 rintro en w7 ⟨qb, c7, rfl, hs7, hx7⟩
 have hy7 := H6.out.keep dif1 hs7 (fun e => e) (fun e => e) (fun e => e) (fun e => e) (fun e => e) (fun e => by cases e) (fun e => by cases e) (fun e => by cases e)
 have HREL := Lib.hid (show SamRel W d t pb gd u qb (1 + f3) 0 w7 from ⟨c7, _, _, _, 0, hy7, hx7, sam_new (by omega), sam_new (by decide), Nat.le_refl _⟩)
 clear hs7 hx7 hy7 HNQ H6
 go_wp2_with fail
 go_loopw [15] (fun s15 wr => ∃ i : Nat, s15 = .int .i64 i ∧ i ≤ m ∧ SamRel W d t pb gd u qb (1 + f3) i wr) (fun s15 _ => m - (intOf s15).toNat)
 case atStart => exact ⟨0, rfl, Nat.zero_le _, HREL.out⟩
 clear HREL
 obtain ⟨i, rfl, him, hrel⟩ := hrel
 by_cases hi : i < m
 · have d1 : decide ((i : Int) < (m : Int)) = true := decide_eq_true (by omega)
   have d2 : decide (i < m) = true := decide_eq_true hi
   have HI := Lib.hid (And.intro hi HM.out)
   obtain ⟨D0, hD0⟩ : ∃ z, L[i]? = some z := ⟨_, List.getElem?_eq_getElem (by have := HL.out.1; omega)⟩
   have hDf := HL.out.2.2 D0 (List.mem_of_getElem? hD0)
   obtain ⟨kk, dn, da, dl, kz, rv⟩ := D0
   have hk0 : 0 ≤ kz := hDf.1
   have hk1 : kz ≤ 255 := hDf.2.1
   obtain ⟨zn, rfl⟩ : ∃ zn : Nat, kz = (zn : Int) := ⟨kz.toNat, by omega⟩
   obtain ⟨g, o, cc, he, -, -, hcs⟩ := HL.out.2.1.pos (by omega)
   cases he
   have hcw : W.cell? ⟨g, o + i * 6 + 4, none⟩ = some (.int .u8 zn) := by
    rw [Nat.add_assoc]
    exact hcs _ _ (sds_get hD0 (by decide) rfl)
   have hcx : W.cell? ⟨g, o + i * 6, none⟩ = some (.int .i64 kk) := hcs _ _ (sds_get (j := 0) hD0 (by decide) rfl)
   have HCW := Lib.hid (fun w' (hs : Still W w') => And.intro (Still.cell hs hcw) (Still.cell hs hcx))
   have hc1 := (HCW.out wr hrel.st).1
   have l0 : (0 : Int) ≤ (i : Int) := by omega
   have l1 : (i : Int) < (m : Int) := by omega
   have HRL := Lib.hid hrel
   obtain ⟨kn, hkn⟩ : ∃ k : Nat, (zn : Int).tmod 8 = (k : Int) := ⟨((zn : Int).tmod 8).toNat, by rw [Int.tmod_eq_emod_of_nonneg (by omega)]; omega⟩
   have HKN := Lib.hid (show kn < 8 from by rw [Int.tmod_eq_emod_of_nonneg (by omega)] at hkn; omega)
   obtain ⟨jn, hjn⟩ : ∃ k : Nat, (zn : Int) / 8 % 4 = (k : Int) := ⟨((zn : Int) / 8 % 4).toNat, by omega⟩
   have HJN := Lib.hid (show jn < 4 from by omega)
   have u1 : IntKind.i64.wrap ((i : Int) + 1) = (i : Int) + 1 := IntWalk.i64_in _ (by have := HI.out; omega)
   have wk : IntKind.i64.wrap (kn : Int) = (kn : Int) := IntWalk.i64_in _ (by have := HKN.out; omega)
   clear hrel hD0 hDf hk0 hk1 hcs hcw hcx him hi
   go_wp2_with fail
   go_quiet (fail)
   have hs0 : Still wr (wr.drewN nq) := Only.drewN (Still.refl wr) nq
   have HRL := Lib.hid (HRL.out.calm hs0)
   clear hc1
   generalize wr.drewN nq = w0 at *
   have hc1 := (HCW.out w0 HRL.out.st).1
   clear hs0
   go_upto_region 15 with fail
   have HR := Lib.hid (fun w' => row_any w' (letS zn) ⟨#[]⟩ ⟨#[]⟩ 1 0 0 (str_size [97 + (zn : Int) % 26]) rfl rfl (by decide) (by decide) (by decide) (by decide))
   have q1 : (convert 22 9 (.slice (some ⟨w0.heap.size, 0, none⟩) 1 1)).run Tryz.prog (w0.alloc (.cells #[.int .u8 (97 + (zn : Int) % 26)] 5)) = .ok (.string (letS zn)) (w0.alloc (.cells #[.int .u8 (97 + (zn : Int) % 26)] 5)) :=
    conv_at ((cellsAt_new w0 [.int .u8 (97 + (zn : Int) % 26)] 5).cell 0)
   go_wp2_with fail
   refine (HR.out _).mono ?_
   rintro en wb ⟨v, rfl, hv, hbl, hgv⟩
   have hsb : Still w0 wb := ((Still.refl w0).alloc _).trans (Still.of hbl)
   have hsl : ∀ c, Low c w0 → ∃ R, Mine c wb R 26 v (bc (rowC (97 + (zn : Int) % 26) [] [])) := fun c hc => by
    rw [← letR]
    have hz1 : (w0.alloc (.cells #[.int .u8 (97 + (zn : Int) % 26)] 5)).heap.size = w0.heap.size + 1 := by simp
    exact ⟨_, mine_new hc hv fun g e => ⟨by have := hgv g e; omega, (hgv g e).2⟩⟩
   have hcb := HCW.out wb (HRL.out.st.trans hsb)
   have cb1 := hcb.2
   obtain ⟨va, vc, rfl⟩ := hv.form'
   have HB := Lib.hid (And.intro hsb hsl)
   have HCB := Lib.hid (fun w' (hs : Still wb w') => Still.cell hs hcb.1)
   clear hv hbl hgv hsb hsl hcb HR q1 hc1
   by_cases hkd : kk.tmod 2 = 0
   · have e1 : (kk.tmod 2 == 0) = true := by rw [hkd]; rfl
     have e2 : decide (kk.tmod 2 = 0) = true := decide_eq_true hkd
     obtain ⟨c, s1, s2, C, n, hx, hy, hp, hq, hn⟩ := HRL.out
     have hx := hx.calm dif1 HB.out.1
     have hy := hy.calm dif3 HB.out.1
     have hK8 := HKN.out
     clear hkd
     have h0 : (0 : Int) ≤ (kn : Int) := by omega
     have h1 : (kn : Int) < (cfD.pages : Int) := by show (kn : Int) < ((8 : Nat) : Int); omega
     obtain ⟨s1', e1p, hp'⟩ := sam_page hp h0 h1
     obtain ⟨s2', e2p, hq'⟩ := sam_page hq h0 h1
     have HPG := Lib.hid (px_page hx dif1 (kn : Int) e1p)
     have HQ := Lib.hid (And.intro e2p hy)
     have HG := Lib.hid (And.intro hp' (And.intro hq' hn))
     have HFB := Lib.hid (fit_blank (hp.good.fit kn h0 h1))
     obtain ⟨pc, hpc⟩ : ∃ p, C kn = p := ⟨_, rfl⟩
     rw [hpc] at HPG HFB HQ
     clear hx hy hp hq hn hp' hq' e1p e2p h0 h1 hK8 hpc
     have HCN := Lib.hid (fun w tt => cellsAt_new w [.slice none 0 0, .slice none 0 0, .slice none 0 0, .slice none 0 0, .int .i64 0] tt)
     go_wp2_with fail
     refine HPG.out.mono ?_
     rintro en wc ⟨v0, v1, v2, v3, ca, rfl, hsa, hxa, hpa⟩
     obtain ⟨z, hz⟩ : ∃ z, pc.lsn = z := ⟨_, rfl⟩
     rw [hz]
     have HZ := Lib.hid hz
     have HONE := Lib.hid (one_page hpa z)
     have HA := Lib.hid (And.intro hxa (And.intro hpa (HQ.out.2.far hsa)))
     clear hsa hxa hpa hz HPG
     go_upto_region 18 with ((with_reducible (show wpList _ _ _ ({ dst := none, op := Op.store 36 _ _, type := _, pos := _, after := _, guard := _ } :: _) _ _)); (refine wpList_storeAgg rfl 36 _ _ rfl wc.heap.size #[v0, v1, v2, v3, .int .i64 z] rfl rfl (HCN.out _ _) size_page rfl HONE.out ?_; intro wd hcf hof hzf; have HD := Lib.hid (And.intro hcf (And.intro hof hzf)); clear hcf hof hzf))
     have hsd : Still wc wd := ((Still.refl wc).alloc _).andThen HD.out.2.1 fun x hx e => by have e' : x = wc.heap.size := e; omega
     have HSD := Lib.hid hsd
     have HPQ := Lib.hid (px_page (HA.out.2.2.calm dif3 hsd) dif3 (kn : Int) HQ.out.1)
     clear hsd
     go_wp2_with fail
     refine HPQ.out.mono ?_
     rintro en we ⟨x0, x1, x2, x3, cb, rfl, hse, hxe, hpe⟩
     rw [HZ.out]
     have HONE2 := Lib.hid (one_page hpe z)
     have HCC := Lib.hid (And.intro hxe (And.intro hpe (And.intro hse ((HA.out.1.calm dif1 HSD.out).near hse))))
     clear hse hxe hpe HPQ
     go_upto_region 19 with ((with_reducible (show wpList _ _ _ ({ dst := none, op := Op.store 36 _ _, type := _, pos := _, after := _, guard := _ } :: _) _ _)); (refine wpList_storeAgg rfl 36 _ _ rfl we.heap.size #[x0, x1, x2, x3, .int .i64 z] rfl rfl (HCN.out _ _) size_page rfl HONE2.out ?_; intro wf hcf hof hzf; have HF := Lib.hid (And.intro hcf (And.intro hof hzf)); clear hcf hof hzf))
     have hsf : Still we wf := ((Still.refl we).alloc _).andThen HF.out.2.1 fun x hx e => by have e' : x = we.heap.size := e; omega
     have HSF := Lib.hid hsf
     have n0 : ∀ x, ca x = 0 → ¬ (ca x = 5 ∨ ca x = 6 ∨ ca x = 7) := fun x e h => by rw [e] at h; rcases h with h | h | h <;> cases h
     have hc1 : cellsAt wf wc.heap.size [v0, v1, v2, v3, .int .i64 z] := (HD.out.1.only HCC.out.2.2.1.only (n0 _ (Classical.byContradiction fun e => by have := HA.out.1.lg.low _ e; omega))).only hsf fun e => e
     have hp1 := ((HA.out.2.1.still HSD.out).only HCC.out.2.2.1.only (fun g hg => n0 g hg.1)).still hsf
     have hp2 := HCC.out.2.1.still hsf
     have HSP := Lib.hid (samepage_any wf v0 v1 v2 v3 x0 x1 x2 x3 pc.c z hp1 hp2 HFB.out)
     have a10 : wf.cell? ⟨wc.heap.size, 0, none⟩ = some (v0) := hc1.cell 0
     have a11 : wf.cell? ⟨wc.heap.size, 1, none⟩ = some (v1) := hc1.cell 1
     have a12 : wf.cell? ⟨wc.heap.size, 2, none⟩ = some (v2) := hc1.cell 2
     have a13 : wf.cell? ⟨wc.heap.size, 3, none⟩ = some (v3) := hc1.cell 3
     have a14 : wf.cell? ⟨wc.heap.size, 4, none⟩ = some (.int .i64 z) := hc1.cell 4
     have a20 : wf.cell? ⟨we.heap.size, 0, none⟩ = some (x0) := HF.out.1.cell 0
     have a21 : wf.cell? ⟨we.heap.size, 1, none⟩ = some (x1) := HF.out.1.cell 1
     have a22 : wf.cell? ⟨we.heap.size, 2, none⟩ = some (x2) := HF.out.1.cell 2
     have a23 : wf.cell? ⟨we.heap.size, 3, none⟩ = some (x3) := HF.out.1.cell 3
     have a24 : wf.cell? ⟨we.heap.size, 4, none⟩ = some (.int .i64 z) := HF.out.1.cell 4
     clear hsf n0 hc1 hp1 hp2
     go_wp2_with fail
     refine HSP.out.mono ?_
     rintro en wh ⟨rfl, hsh⟩
     have HN := Lib.hid (show SamRel W d t pb gd u qb (1 + f3) i wh from by
      obtain ⟨g1, g2, g3⟩ := HG.out
      have hsw := HSF.out.trans hsh
      exact ⟨cb, s1', s2', C, n, HCC.out.2.2.2.calm dif1 hsw, HCC.out.1.calm dif3 hsw, g1, g2, g3⟩)
     clear hsh HSP a10 a11 a12 a13 a14 a20 a21 a22 a23 a24
     go_wp2_with fail
     go_roundw
     case rel => exact ⟨i + 1, by go_num, by have := HI.out; omega, HN.out.up⟩
     case measure => simp [intOf]; have := HI.out; omega
   have e1 : (kk.tmod 2 == 0) = false := by simpa using hkd
   have e2 : decide (kk.tmod 2 = 0) = false := decide_eq_false hkd
   obtain ⟨c, s1, s2, C, n, hx, hy, hp, hq, hn⟩ := HRL.out
   obtain ⟨R, hmi⟩ := HB.out.2 c hx.lg.low
   have hx := hx.calm dif1 HB.out.1
   have hy := hy.calm dif3 HB.out.1
   have HAP := Lib.hid (px_append hx dif1 (k := 5) (x := 0) (nE_may (k := 5) (t := 0) (by omega) (by omega)) (by rw [hp.str]; show n * 25 + 25 ≤ 20 * 63; have := HI.out; omega))
   have HG := Lib.hid (And.intro (sam_app hp 5 0) (And.intro hq (And.intro hn (And.intro hy hmi))))
   clear hx hy hp hq hn hkd hmi
   go_wp2_with fail
   refine HAP.out.mono ?_
   rintro en wc ⟨rfl, ca, hsa, hxa⟩
   have hya := HG.out.2.2.2.1.far hsa
   have hma := HG.out.2.2.2.2.step hsa (by rintro (e | e | e) <;> cases e)
   have HAQ := Lib.hid (px_append hya dif3 (k := 5) (x := 0) (nE_may (k := 5) (t := 0) (by omega) (by omega)) (by rw [HG.out.2.1.str]; show n * 25 + 25 ≤ 20 * 63; have := HI.out; have := HG.out.2.2.1; omega))
   have HA := Lib.hid (And.intro hxa hma)
   clear hsa hya hma hxa HAP
   go_wp2_with fail
   refine HAQ.out.mono ?_
   rintro en wd ⟨rfl, cb, hsb, hyb⟩
   have hxb := HA.out.1.near hsb
   have hmb := HA.out.2.step hsb (by rintro (e | e | e) <;> cases e)
   obtain ⟨s1', e1s, hp'⟩ := sam_set HG.out.1 (k := (kn : Int)) (by omega) (by show (kn : Int) < ((8 : Nat) : Int); have := HKN.out; omega) (j := (jn : Int)) (by omega) (by have := HJN.out; omega) zn (by have := HI.out; omega)
   have hq1 := sam_app HG.out.2.1 5 0
   obtain ⟨s2', e2s, hq'⟩ := sam_set hq1 (k := (kn : Int)) (by omega) (by show (kn : Int) < ((8 : Nat) : Int); have := HKN.out; omega) (j := (jn : Int)) (by omega) (by have := HJN.out; omega) zn (by have := HI.out; omega)
   have HST := Lib.hid (px_set hxb dif1 (kn : Int) (jn : Int) (bl := rowC (97 + (zn : Int) % 26) [] []) (x := .slice va 26 vc) hmb.1 (fun g e => (hmb.2 g e).1) (let_ok zn).2.2.2 ((i : Int) + 1) e1s)
   have HB2 := Lib.hid (And.intro hyb (And.intro hmb (And.intro hp' (And.intro hq' e2s))))
   clear hsb hyb hxb hmb e1s e2s hp' hq' hq1 HAQ
   go_wp2_with fail
   refine HST.out.mono ?_
   rintro en we ⟨rfl, cc, hsc, hxc⟩
   have hyc := HB2.out.1.far hsc
   have hmc := HB2.out.2.1.step hsc (by rintro (e | e | e) <;> cases e)
   have HSU := Lib.hid (px_set hyc dif3 (kn : Int) (jn : Int) (bl := rowC (97 + (zn : Int) % 26) [] []) (x := .slice va 26 vc) hmc.1 (fun g e => (hmc.2 g e).1) (let_ok zn).2.2.2 ((i : Int) + 1) HB2.out.2.2.2.2)
   have HC2 := Lib.hid hxc
   clear hsc hxc hyc hmc HST
   go_wp2_with fail
   refine HSU.out.mono ?_
   rintro en wf ⟨rfl, cd, hsd, hyd⟩
   have HN := Lib.hid (show SamRel W d t pb gd u qb (1 + f3) (i + 1) wf from ⟨cd, s1', s2', _, n + 1, HC2.out.near hsd, hyd, HB2.out.2.2.1, HB2.out.2.2.2.1, by have := HG.out.2.2.1; omega⟩)
   clear hsd hyd HSU
   go_wp2_with fail
   go_roundw
   case rel => exact ⟨i + 1, by go_num, by have := HI.out; omega, HN.out⟩
   case measure => simp [intOf]; have := HI.out; omega
 have d1 : decide ((i : Int) < (m : Int)) = false := decide_eq_false (by omega)
 have d2 : decide (i < m) = false := decide_eq_false hi
 have HREB := Lib.hid (show ∃ N, SamRel W d t pb gd u qb (1 + f3) N wr from ⟨i, hrel⟩)
 clear hi him hrel
 obtain ⟨N, hN0⟩ := HREB.out
 have HREB := Lib.hid hN0
 clear hN0
 go_wp2_with fail
 go_loopw [24] (fun s24 wr => ∃ k : Nat, s24 = .int .i64 k ∧ k ≤ 8 ∧ SamRel W d t pb gd u qb (1 + f3) N wr) (fun s24 _ => 8 - (intOf s24).toNat)
 case atStart => exact ⟨0, rfl, by decide, HREB.out⟩
 clear HREB
 obtain ⟨k, rfl, hk8, hrel⟩ := hrel
 by_cases hk : k < 8
 · have d3 : decide ((k : Int) < 8) = true := decide_eq_true (by omega)
   have d4 : decide (k < 8) = true := decide_eq_true hk
   have HK := Lib.hid hk
   have uk : IntKind.i64.wrap ((k : Int) + 1) = (k : Int) + 1 := IntWalk.i64_in _ (by omega)
   obtain ⟨c, s1, s2, C, n, hx, hy, hp, hq, hn⟩ := hrel
   have hK8 := HK.out
   clear hk hk8
   have h0 : (0 : Int) ≤ (k : Int) := by omega
   have h1 : (k : Int) < (cfD.pages : Int) := by show (k : Int) < ((8 : Nat) : Int); omega
   obtain ⟨s1', e1p, hp'⟩ := sam_page hp h0 h1
   obtain ⟨s2', e2p, hq'⟩ := sam_page hq h0 h1
   have HPG := Lib.hid (px_page hx dif1 (k : Int) e1p)
   have HQ := Lib.hid (And.intro e2p hy)
   have HG := Lib.hid (And.intro hp' (And.intro hq' hn))
   have HFB := Lib.hid (fit_blank (hp.good.fit k h0 h1))
   obtain ⟨pc, hpc⟩ : ∃ p, C k = p := ⟨_, rfl⟩
   rw [hpc] at HPG HFB HQ
   clear hx hy hp hq hn hp' hq' e1p e2p h0 h1 hK8 hpc
   have HCN := Lib.hid (fun w tt => cellsAt_new w [.slice none 0 0, .slice none 0 0, .slice none 0 0, .slice none 0 0, .int .i64 0] tt)
   go_wp2_with fail
   refine HPG.out.mono ?_
   rintro en wc ⟨v0, v1, v2, v3, ca, rfl, hsa, hxa, hpa⟩
   obtain ⟨z, hz⟩ : ∃ z, pc.lsn = z := ⟨_, rfl⟩
   rw [hz]
   have HZ := Lib.hid hz
   have HONE := Lib.hid (one_page hpa z)
   have HA := Lib.hid (And.intro hxa (And.intro hpa (HQ.out.2.far hsa)))
   clear hsa hxa hpa hz HPG
   go_upto_region 29 with ((with_reducible (show wpList _ _ _ ({ dst := none, op := Op.store 36 _ _, type := _, pos := _, after := _, guard := _ } :: _) _ _)); (refine wpList_storeAgg rfl 36 _ _ rfl wc.heap.size #[v0, v1, v2, v3, .int .i64 z] rfl rfl (HCN.out _ _) size_page rfl HONE.out ?_; intro wd hcf hof hzf; have HD := Lib.hid (And.intro hcf (And.intro hof hzf)); clear hcf hof hzf))
   have hsd : Still wc wd := ((Still.refl wc).alloc _).andThen HD.out.2.1 fun x hx e => by have e' : x = wc.heap.size := e; omega
   have HSD := Lib.hid hsd
   have HPQ := Lib.hid (px_page (HA.out.2.2.calm dif3 hsd) dif3 (k : Int) HQ.out.1)
   clear hsd
   go_wp2_with fail
   refine HPQ.out.mono ?_
   rintro en we ⟨x0, x1, x2, x3, cb, rfl, hse, hxe, hpe⟩
   rw [HZ.out]
   have HONE2 := Lib.hid (one_page hpe z)
   have HCC := Lib.hid (And.intro hxe (And.intro hpe (And.intro hse ((HA.out.1.calm dif1 HSD.out).near hse))))
   clear hse hxe hpe HPQ
   go_upto_region 30 with ((with_reducible (show wpList _ _ _ ({ dst := none, op := Op.store 36 _ _, type := _, pos := _, after := _, guard := _ } :: _) _ _)); (refine wpList_storeAgg rfl 36 _ _ rfl we.heap.size #[x0, x1, x2, x3, .int .i64 z] rfl rfl (HCN.out _ _) size_page rfl HONE2.out ?_; intro wf hcf hof hzf; have HF := Lib.hid (And.intro hcf (And.intro hof hzf)); clear hcf hof hzf))
   have hsf : Still we wf := ((Still.refl we).alloc _).andThen HF.out.2.1 fun x hx e => by have e' : x = we.heap.size := e; omega
   have HSF := Lib.hid hsf
   have n0 : ∀ x, ca x = 0 → ¬ (ca x = 5 ∨ ca x = 6 ∨ ca x = 7) := fun x e h => by rw [e] at h; rcases h with h | h | h <;> cases h
   have hc1 : cellsAt wf wc.heap.size [v0, v1, v2, v3, .int .i64 z] := (HD.out.1.only HCC.out.2.2.1.only (n0 _ (Classical.byContradiction fun e => by have := HA.out.1.lg.low _ e; omega))).only hsf fun e => e
   have hp1 := ((HA.out.2.1.still HSD.out).only HCC.out.2.2.1.only (fun g hg => n0 g hg.1)).still hsf
   have hp2 := HCC.out.2.1.still hsf
   have HSP := Lib.hid (samepage_any wf v0 v1 v2 v3 x0 x1 x2 x3 pc.c z hp1 hp2 HFB.out)
   have a10 : wf.cell? ⟨wc.heap.size, 0, none⟩ = some (v0) := hc1.cell 0
   have a11 : wf.cell? ⟨wc.heap.size, 1, none⟩ = some (v1) := hc1.cell 1
   have a12 : wf.cell? ⟨wc.heap.size, 2, none⟩ = some (v2) := hc1.cell 2
   have a13 : wf.cell? ⟨wc.heap.size, 3, none⟩ = some (v3) := hc1.cell 3
   have a14 : wf.cell? ⟨wc.heap.size, 4, none⟩ = some (.int .i64 z) := hc1.cell 4
   have a20 : wf.cell? ⟨we.heap.size, 0, none⟩ = some (x0) := HF.out.1.cell 0
   have a21 : wf.cell? ⟨we.heap.size, 1, none⟩ = some (x1) := HF.out.1.cell 1
   have a22 : wf.cell? ⟨we.heap.size, 2, none⟩ = some (x2) := HF.out.1.cell 2
   have a23 : wf.cell? ⟨we.heap.size, 3, none⟩ = some (x3) := HF.out.1.cell 3
   have a24 : wf.cell? ⟨we.heap.size, 4, none⟩ = some (.int .i64 z) := HF.out.1.cell 4
   clear hsf n0 hc1 hp1 hp2
   go_wp2_with fail
   refine HSP.out.mono ?_
   rintro en wh ⟨rfl, hsh⟩
   have HN := Lib.hid (show SamRel W d t pb gd u qb (1 + f3) N wh from by
    obtain ⟨g1, g2, g3⟩ := HG.out
    have hsw := HSF.out.trans hsh
    exact ⟨cb, s1', s2', C, n, HCC.out.2.2.2.calm dif1 hsw, HCC.out.1.calm dif3 hsw, g1, g2, g3⟩)
   clear hsh HSP a10 a11 a12 a13 a14 a20 a21 a22 a23 a24
   go_wp2_with fail
   go_roundw
   case rel => exact ⟨k + 1, by go_num, by have := HK.out; omega, HN.out⟩
   case measure => simp [intOf]; have := HK.out; omega
 have d3 : decide ((k : Int) < 8) = false := decide_eq_false (by omega)
 have d4 : decide (k < 8) = false := decide_eq_false hk
 obtain ⟨c, s1, s2, C, n, hx, hy, hp, hq, hn⟩ := hrel
 have hL := hp.len
 have HD1 := Lib.hid (px_dirty hx dif1 (by rw [hL]; have := HFF.out; omega))
 have HH := Lib.hid (And.intro hx hL)
 clear hx hy hp hq hn hL hk hk8
 go_wp2_with fail
 refine HD1.out.mono ?_
 rintro en wa ⟨dv, M, rfl, hM, -, hdv, hsa, -⟩
 obtain ⟨ea, ec, rfl⟩ := hdv.form'
 have hle : M.length ≤ 1 + f3 := by
  rw [hM.length_eq, ← HH.out.2]
  exact dirty_le _
 obtain ⟨ml, hml⟩ : ∃ k, M.length = k := ⟨_, rfl⟩
 rw [hml] at hle
 have p1 : decide ((ml : Int) ≤ 1 + (f3 : Int)) = true := decide_eq_true (by omega)
 have p2 : decide (ml ≤ 1 + f3) = true := decide_eq_true hle
 have F := Lib.hid (show BTrue W (.returned (.bool true)) wa from ⟨rfl, HH.out.1.lg.still.trans hsa⟩)
 rw [hml]
 clear hM hdv hsa hle hml HD1
 go_wp2_with fail
 go_ret
 exact F.out
end Go.Proofs.YtlcfoeikamkpmaaGreat

namespace Go.Proofs.YtlcfoeikamkpmaaGreat
open Go.RowKit Go.Wh Go.ChangeShapes Go.WideShapes Go.ChangeAt

theorem samOwn : ownKnob Tryz.prog.godebug = none := by kernel_rfl
theorem samLaid : laidOutB Tryz.prog = true := by kernel_rfl
theorem trodAll_two' {H : Type} {enc : TypeId × Value → H} {P : Program} {w : World} {base : Nat} {spare : Nat → Bool} {held : Bool} {t t' : TypeId} {args : Array Value} {ds : List (DataW H)} {ps : List MemPlace} (h : DataW.TrodAll enc P w base spare held [t, t'] args.toList ds ps) :
 ∃ v v' d d' p p', args = #[v, v'] ∧ ds = [d, d'] ∧ ps = p ++ p' ∧ DataW.Trod enc P w base spare held t v d p ∧ DataW.Trod enc P w base spare held t' v' d' p' := by
 obtain ⟨v, vs, d, ds', p, q, hargs, rfl, rfl, hd, hrest⟩ := trodAll_cons h
 obtain ⟨v', vs', d', ds'', p', q', rfl, rfl, rfl, hd', hrest'⟩ := trodAll_cons hrest
 obtain ⟨rfl, rfl, rfl⟩ := trodAll_nil hrest'
 exact ⟨v, v', d, d', p, p', by cases args; simp_all, rfl, by simp, hd, hd'⟩
set_option maxRecDepth 100000 in
theorem poolSame_lifted (os : Os) (started : os.Started) (H : Type) (enc : TypeId × Value → H) :
 ReturnsInHanded {} Tryz.checked os 5 .any (Rows.poolSameSpec.pre6 enc Tryz.prog Tryz.f5 Rows.poolSameRow.domain false) (Rows.poolSameSpec.post enc Tryz.prog Tryz.f5 false true false false) := by
 refine returnsInHanded_of_change (C := Tryz.checked) samOwn started (by kernel_rfl) Tryz.func5
  (ChangeSpec.witness6 (enc := enc) (C := Tryz.checked) false ⟨#[], #[.slice none 0 0, .int .u8 0], []⟩ 8 (by kernel_rfl) (by kernel_rfl) (by kernel_rfl) (by kernel_rfl)) ?_
 intro W base args ds gs before hval0 hW hcnd _
 have hval : ∀ (j : Nat) t v, Tryz.f5.params[j]? = some t → args[j]? = some v → Value.okWide Tryz.prog W .any base t v := hval0
 have hW' := hW
 obtain ⟨p, q, hA0, hV, rfl, hfz, hnd⟩ := hW
 have hA : DataW.TrodAll enc Tryz.prog W 0 (fun _ => true) true Tryz.f5.params.toList args.toList ds p := hA0
 rw [Tryz.params5] at hA hval
 obtain ⟨v0, v1, d0, d1, p0, p1, rfl, rfl, rfl, h0, h1⟩ := trodAll_two' hA
 obtain ⟨a0, c0, L, rfl, hs, hd⟩ := open_sds (hval 0 54 v0 rfl rfl) h0
 obtain ⟨n1, rfl, rfl, rfl, w1⟩ := open_int Tryz.underlying5 (hval 1 5 v1 rfl rfl) h1
 have walk : Calls Tryz.prog 5 #[.slice a0 L.length c0, .int .u8 n1] W (BTrue W) := by
  exact same_walk W a0 L.length c0 L n1 ⟨rfl, hs, hd⟩ (byte_wf w1).1
 refine walk.mono fun e W' ⟨he, bel⟩ => ?_
 subst he
 exact ⟨_, rfl, law_post samLaid (t := 4) rfl Tryz.underlying4 rfl (by intro t ht; rw [show Tryz.f5.params.toList = [54, 5] from rfl] at ht; simp at ht; rcases ht with rfl | rfl; all_goals exact ⟨by kernel_rfl, of_decide_eq_true (by kernel_rfl)⟩) hW' rfl (Only.below bel (Nat.le_refl _) fun _ _ e => e)⟩

theorem poolSame_holds : Rows.PoolSameSaid :=
 OpenClaim.holds_of_wide 5 Tryz.f5 rfl rfl rfl rfl rfl rfl rfl ⟨rfl, rfl, rfl, rfl, rfl⟩ rfl rfl rfl rfl rfl (by kernel_rfl) Tryz.func5 (by kernel_rfl)
  (of_decide_eq_true (by kernel_rfl)) (by unfold Func.isWrapper; first | (rw [if_pos (by decide +kernel)]; kernel_rfl) | (rw [if_neg (by decide +kernel)]; exact ⟨rfl, rfl⟩))
  (fun os started H enc _ => poolSame_lifted os started H enc)
#print axioms poolSame_holds
end Go.Proofs.YtlcfoeikamkpmaaGreat
