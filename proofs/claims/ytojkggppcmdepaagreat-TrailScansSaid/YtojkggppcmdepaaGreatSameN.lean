/- An entry of a row in memory, by its place. No conditions. Entries without lists, compared: equal ones. Conditions: they lie in memory. Entries compared: equal ones. Conditions: they lie in memory. Entries compared: equal ones. Conditions: they lie in memory. Entries compared: equal ones. Conditions: they lie in memory. -/
import Derived.Test.YtojkggppcmdepaaGreatTrSc
import Derived.Test.YtojkggppcmdepaaGreatTrT
import Derived.Lib.BufferRead
import Derived.Test.YtojkggppcmdepaaGreatTrSc
namespace Go.Proofs.YtojkggppcmdepaaGreat
open Go.RowKit Go.Wh Go.Maps

theorem Ents.at {w : World} {C : Nat → Prop} {a : Option Addr} {n c i : Nat} {es : List PE} {e : PE} (h : Ents w C (.slice a n c) es) (he : es[i]? = some e) :
    ∃ g o oa oc na nc ma mc ka kc da dc va vc, a = some ⟨g, o, none⟩ ∧ n = es.length ∧ EIs w C e (.slice oa e.old.length oc) (.slice na e.new.length nc) (.slice ma e.moves.length mc) (.slice ka e.lives.length kc) (.slice da e.dirty.length dc) (.slice va e.opens.length vc) ∧
      ∀ j u, j < 16 → (eV e (.slice oa e.old.length oc) (.slice na e.new.length nc) (.slice ma e.moves.length mc) (.slice ka e.lives.length kc) (.slice da e.dirty.length dc) (.slice va e.opens.length vc)).toList[j]? = some u → w.cell? ⟨g, o + (i * 16 + j), none⟩ = some u := by
  obtain ⟨vs, hv1, hv2⟩ := h
  have hi := (List.getElem?_eq_some_iff.1 he).1
  obtain ⟨g, o, c', e', -, -, hcs⟩ := hv2.pos (by omega)
  obtain ⟨ov, nv, mv, lv, dv, pv, h1, h2⟩ := hv1.2 i e (vs[i]'(by rw [hv1.1]; exact hi)) he (List.getElem?_eq_getElem _)
  obtain ⟨oa, oc, na, nc, ma, mc, la, lc, da, dc, xa, xc, rfl, rfl, rfl, rfl, rfl, rfl⟩ := h2.forms
  injection e' with e1 e2 e3
  refine ⟨g, o, _, _, _, _, _, _, _, _, _, _, _, _, e1, e2, h2, fun j u hj hu => hcs _ _ ?_⟩
  rw [flatten_get vs i j _ hv1.sizes (List.getElem?_eq_getElem (by rw [hv1.1]; exact hi)) hj, h1]
  exact hu
end Go.Proofs.YtojkggppcmdepaaGreat

namespace Go.Proofs.YtojkggppcmdepaaGreat
open Go.RowKit Go.Wh Go.Maps

theorem conv_sl {w : World} {Q : Nat → Prop} {v : Value} {n : Nat} {l : List Int} (h : Sl w Q 1 v n (bc l)) : (convert 23 9 v).run Tryz.prog w = .ok (.string (strOfNums l)) w := by
  have hl : l.length = n := by have := h.1; rw [bc_length] at this; omega
  rcases h.2 with ⟨rfl | ⟨a, c, rfl⟩, rfl⟩ | ⟨g, o, c, rfl, -, hc⟩
  rotate_left
  · rw [List.length_eq_zero_iff.1 hl]
    exact convB0 a c
  rotate_left
  · rw [List.length_eq_zero_iff.1 hl]
    exact Lib.run_convert_nil_bytes w 23 9 5 0 Tryz.underlying23 Tryz.underlying5 Tryz.underlying9
  · exact run_convert_bytes_arg _ 23 5 Tryz.underlying23 Tryz.underlying5 g o n c l hl (fun i hi => by
      have hil : i < l.length := by omega
      rw [hc i (.int .u8 l[i]) (bc_get (List.getElem?_eq_getElem hil))]
      simp [List.getD_eq_getElem?_getD, List.getElem?_eq_getElem hil]) 9 Tryz.underlying9
set_option maxRecDepth 10000 in
theorem sameMoves0 (w : World) (a b : Option Addr) (c k : Nat) : Calls Tryz.prog 79 #[.slice a 0 c, .slice b 0 k] w (SamePost w (.bool true)) := by
  go_enter Tryz.func79, Tryz.ntmps79
  go_wp2_with fail
  go_loopw [5] (fun s wr => s = .int .i64 0 ∧ wr = w) (fun _ _ => 0)
  case atStart => exact ⟨rfl, rfl⟩
  case round =>
    obtain ⟨rfl, rfl⟩ := hrel
    go_wp2_with fail
    go_ret
    exact ⟨rfl, rfl⟩
set_option maxRecDepth 10000 in
theorem sameLives0 (w : World) (a b : Option Addr) (c k : Nat) : Calls Tryz.prog 80 #[.slice a 0 c, .slice b 0 k] w (SamePost w (.bool true)) := by
  go_enter Tryz.func80, Tryz.ntmps80
  go_wp2_with fail
  go_loopw [5] (fun s wr => s = .int .i64 0 ∧ wr = w) (fun _ _ => 0)
  case atStart => exact ⟨rfl, rfl⟩
  case round =>
    obtain ⟨rfl, rfl⟩ := hrel
    go_wp2_with fail
    go_ret
    exact ⟨rfl, rfl⟩
set_option maxRecDepth 10000 in
theorem sameDirty0 (w : World) (a b : Option Addr) (c k : Nat) : Calls Tryz.prog 81 #[.slice a 0 c, .slice b 0 k] w (SamePost w (.bool true)) := by
  go_enter Tryz.func81, Tryz.ntmps81
  go_wp2_with fail
  go_loopw [5] (fun s wr => s = .int .i64 0 ∧ wr = w) (fun _ _ => 0)
  case atStart => exact ⟨rfl, rfl⟩
  case round =>
    obtain ⟨rfl, rfl⟩ := hrel
    go_wp2_with fail
    go_ret
    exact ⟨rfl, rfl⟩
set_option maxRecDepth 10000 in
theorem sameOpens0 (w : World) (a b : Option Addr) (c k : Nat) : Calls Tryz.prog 82 #[.slice a 0 c, .slice b 0 k] w (SamePost w (.bool true)) := by
  go_enter Tryz.func82, Tryz.ntmps82
  go_wp2_with fail
  go_loopw [5] (fun s wr => s = .int .i64 0 ∧ wr = w) (fun _ _ => 0)
  case atStart => exact ⟨rfl, rfl⟩
  case round =>
    obtain ⟨rfl, rfl⟩ := hrel
    go_wp2_with fail
    go_ret
    exact ⟨rfl, rfl⟩
end Go.Proofs.YtojkggppcmdepaaGreat

namespace Go.Proofs.YtojkggppcmdepaaGreat
open Go.RowKit Go.Wh Go.Maps

/-- Only draws stand between. -/
def Drewn (w w' : World) : Prop := ∃ q, w' = w.drewN q
theorem Drewn.refl (w : World) : Drewn w w := ⟨0, rfl⟩
theorem Drewn.drewN {w w' : World} (h : Drewn w w') (n : Nat) : Drewn w (w'.drewN n) := by
  obtain ⟨q, rfl⟩ := h
  exact ⟨q + n, World.drewN_drewN ..⟩
theorem Drewn.still {w w' : World} (h : Drewn w w') : Still w w' := by
  obtain ⟨q, rfl⟩ := h
  exact (Still.refl w).drewN q
def QtPost (w : World) (v : Value) (e : Ending) (w' : World) : Prop := e = .returned v ∧ Drewn w w'
set_option maxHeartbeats 1000000 in
set_option maxRecDepth 10000 in
theorem same_mv {w : World} {P Q : Nat → Prop} (a b : Value) (m : Nat) (l : List PMv) (ha : Sl w P 4 a m (l.flatMap mvC)) (hb : Sl w Q 4 b m (l.flatMap mvC)) (hl : l.length = m) (hm : m ≤ 100000) :
    Calls Tryz.prog 79 #[a, b] w (QtPost w (.bool true)) := by
  have H := Lib.hid (And.intro ha (And.intro hb (And.intro hl hm)))
  obtain ⟨xa, xc, rfl⟩ := ha.form
  obtain ⟨ya, yc, rfl⟩ := hb.form
  clear ha hb hl hm
  go_enter Tryz.func79, Tryz.ntmps79
  go_wp2_with fail
  go_loopw [5] (fun s wr => ∃ k : Nat, s = .int .i64 k ∧ k ≤ m ∧ Drewn w wr) (fun s _ => m - (intOf s).toNat)
  case atStart => exact ⟨0, rfl, Nat.zero_le _, Drewn.refl _⟩
  case round =>
    obtain ⟨k, rfl, hk, hdr⟩ := hrel
    have hst := hdr.still
    by_cases hi : k < m
    · obtain ⟨x, hx⟩ : ∃ x, l[k]? = some x := ⟨_, List.getElem?_eq_getElem (by have := H.out.2.2.1; omega)⟩
      obtain ⟨g, o, c, hg, -, -, hcs⟩ := (H.out.1.still hst).pos (by omega)
      cases hg
      obtain ⟨g2, o2, c2, hg2, -, -, hcs2⟩ := (H.out.2.1.still hst).pos (by omega)
      cases hg2
      have hfc : ∀ j, j < 4 → (l.flatMap mvC)[k * 4 + j]? = (mvC x)[j]? := fun j hj => flat_get (sz := 4) (fun _ => rfl) l k j x hx hj
      have c0 : wr.cell? ⟨g, o + k * 4, none⟩ = some (.int .i64 x.fp) := hcs (k * 4) _ (hfc 0 (by omega))
      have e0 : wr.cell? ⟨g2, o2 + k * 4, none⟩ = some (.int .i64 x.fp) := hcs2 (k * 4) _ (hfc 0 (by omega))
      have c1 : wr.cell? ⟨g, o + k * 4 + 1, none⟩ = some (.int .i64 x.fc) := by rw [Nat.add_assoc]; exact hcs (k * 4 + 1) _ (hfc 1 (by omega))
      have e1 : wr.cell? ⟨g2, o2 + k * 4 + 1, none⟩ = some (.int .i64 x.fc) := by rw [Nat.add_assoc]; exact hcs2 (k * 4 + 1) _ (hfc 1 (by omega))
      have c2 : wr.cell? ⟨g, o + k * 4 + 2, none⟩ = some (.int .i64 x.tp) := by rw [Nat.add_assoc]; exact hcs (k * 4 + 2) _ (hfc 2 (by omega))
      have e2 : wr.cell? ⟨g2, o2 + k * 4 + 2, none⟩ = some (.int .i64 x.tp) := by rw [Nat.add_assoc]; exact hcs2 (k * 4 + 2) _ (hfc 2 (by omega))
      have c3 : wr.cell? ⟨g, o + k * 4 + 3, none⟩ = some (.int .i64 x.tc) := by rw [Nat.add_assoc]; exact hcs (k * 4 + 3) _ (hfc 3 (by omega))
      have e3 : wr.cell? ⟨g2, o2 + k * 4 + 3, none⟩ = some (.int .i64 x.tc) := by rw [Nat.add_assoc]; exact hcs2 (k * 4 + 3) _ (hfc 3 (by omega))
      have b1 : decide ((k : Int) < (m : Int)) = true := by simp; omega
      have b2 : decide (k < m) = true := by simp; omega
      have b3 : (0 : Int) ≤ (k : Int) := by omega
      have b4 : (k : Int) < (m : Int) := by omega
      have u9 : IntKind.i64.wrap ((k : Int) + 1) = (k : Int) + 1 := IntWalk.i64_in _ (by have := H.out.2.2.2; omega)
      have HT := Lib.hid hdr
      clear hcs hcs2 hx hfc hst hdr
      go_wp2_with fail
      go_quiet (fail)
      go_wp2_with fail
      go_roundw
      case rel => exact ⟨k + 1, by go_num, by omega, HT.out.drewN _⟩
      case measure => simp [intOf]; omega
    · have hke : k = m := by omega
      subst hke
      have b1 : decide ((k : Int) < (k : Int)) = false := by simp
      have F := Lib.hid (show QtPost w (.bool true) (.returned (.bool true)) wr from ⟨rfl, hdr⟩)
      clear hst hdr
      go_wp2_with fail
      go_ret
      exact F.out
set_option maxHeartbeats 1000000 in
set_option maxRecDepth 10000 in
theorem same_lv {w : World} {P Q : Nat → Prop} (a b : Value) (m : Nat) (l : List PLv) (ha : Sl w P 4 a m (l.flatMap lvC)) (hb : Sl w Q 4 b m (l.flatMap lvC)) (hl : l.length = m) (hm : m ≤ 100000) :
    Calls Tryz.prog 80 #[a, b] w (QtPost w (.bool true)) := by
  have H := Lib.hid (And.intro ha (And.intro hb (And.intro hl hm)))
  obtain ⟨xa, xc, rfl⟩ := ha.form
  obtain ⟨ya, yc, rfl⟩ := hb.form
  clear ha hb hl hm
  go_enter Tryz.func80, Tryz.ntmps80
  go_wp2_with fail
  go_loopw [5] (fun s wr => ∃ k : Nat, s = .int .i64 k ∧ k ≤ m ∧ Drewn w wr) (fun s _ => m - (intOf s).toNat)
  case atStart => exact ⟨0, rfl, Nat.zero_le _, Drewn.refl _⟩
  case round =>
    obtain ⟨k, rfl, hk, hdr⟩ := hrel
    have hst := hdr.still
    by_cases hi : k < m
    · obtain ⟨x, hx⟩ : ∃ x, l[k]? = some x := ⟨_, List.getElem?_eq_getElem (by have := H.out.2.2.1; omega)⟩
      obtain ⟨g, o, c, hg, -, -, hcs⟩ := (H.out.1.still hst).pos (by omega)
      cases hg
      obtain ⟨g2, o2, c2, hg2, -, -, hcs2⟩ := (H.out.2.1.still hst).pos (by omega)
      cases hg2
      have hfc : ∀ j, j < 4 → (l.flatMap lvC)[k * 4 + j]? = (lvC x)[j]? := fun j hj => flat_get (sz := 4) (fun _ => rfl) l k j x hx hj
      have c0 : wr.cell? ⟨g, o + k * 4, none⟩ = some (.int .i64 x.txn) := hcs (k * 4) _ (hfc 0 (by omega))
      have e0 : wr.cell? ⟨g2, o2 + k * 4, none⟩ = some (.int .i64 x.txn) := hcs2 (k * 4) _ (hfc 0 (by omega))
      have c1 : wr.cell? ⟨g, o + k * 4 + 1, none⟩ = some (.int .i64 x.last) := by rw [Nat.add_assoc]; exact hcs (k * 4 + 1) _ (hfc 1 (by omega))
      have e1 : wr.cell? ⟨g2, o2 + k * 4 + 1, none⟩ = some (.int .i64 x.last) := by rw [Nat.add_assoc]; exact hcs2 (k * 4 + 1) _ (hfc 1 (by omega))
      have c2 : wr.cell? ⟨g, o + k * 4 + 2, none⟩ = some (.int .i64 x.next) := by rw [Nat.add_assoc]; exact hcs (k * 4 + 2) _ (hfc 2 (by omega))
      have e2 : wr.cell? ⟨g2, o2 + k * 4 + 2, none⟩ = some (.int .i64 x.next) := by rw [Nat.add_assoc]; exact hcs2 (k * 4 + 2) _ (hfc 2 (by omega))
      have c3 : wr.cell? ⟨g, o + k * 4 + 3, none⟩ = some (.bool x.commit) := by rw [Nat.add_assoc]; exact hcs (k * 4 + 3) _ (hfc 3 (by omega))
      have e3 : wr.cell? ⟨g2, o2 + k * 4 + 3, none⟩ = some (.bool x.commit) := by rw [Nat.add_assoc]; exact hcs2 (k * 4 + 3) _ (hfc 3 (by omega))
      have b1 : decide ((k : Int) < (m : Int)) = true := by simp; omega
      have b2 : decide (k < m) = true := by simp; omega
      have b3 : (0 : Int) ≤ (k : Int) := by omega
      have b4 : (k : Int) < (m : Int) := by omega
      have u9 : IntKind.i64.wrap ((k : Int) + 1) = (k : Int) + 1 := IntWalk.i64_in _ (by have := H.out.2.2.2; omega)
      have HT := Lib.hid hdr
      clear hcs hcs2 hx hfc hst hdr
      go_wp2_with fail
      go_quiet (fail)
      go_wp2_with fail
      go_roundw
      case rel => exact ⟨k + 1, by go_num, by omega, HT.out.drewN _⟩
      case measure => simp [intOf]; omega
    · have hke : k = m := by omega
      subst hke
      have b1 : decide ((k : Int) < (k : Int)) = false := by simp
      have F := Lib.hid (show QtPost w (.bool true) (.returned (.bool true)) wr from ⟨rfl, hdr⟩)
      clear hst hdr
      go_wp2_with fail
      go_ret
      exact F.out
set_option maxHeartbeats 1000000 in
set_option maxRecDepth 10000 in
theorem same_dt {w : World} {P Q : Nat → Prop} (a b : Value) (m : Nat) (l : List PDt) (ha : Sl w P 2 a m (l.flatMap dtC)) (hb : Sl w Q 2 b m (l.flatMap dtC)) (hl : l.length = m) (hm : m ≤ 100000) :
    Calls Tryz.prog 81 #[a, b] w (QtPost w (.bool true)) := by
  have H := Lib.hid (And.intro ha (And.intro hb (And.intro hl hm)))
  obtain ⟨xa, xc, rfl⟩ := ha.form
  obtain ⟨ya, yc, rfl⟩ := hb.form
  clear ha hb hl hm
  go_enter Tryz.func81, Tryz.ntmps81
  go_wp2_with fail
  go_loopw [5] (fun s wr => ∃ k : Nat, s = .int .i64 k ∧ k ≤ m ∧ Drewn w wr) (fun s _ => m - (intOf s).toNat)
  case atStart => exact ⟨0, rfl, Nat.zero_le _, Drewn.refl _⟩
  case round =>
    obtain ⟨k, rfl, hk, hdr⟩ := hrel
    have hst := hdr.still
    by_cases hi : k < m
    · obtain ⟨x, hx⟩ : ∃ x, l[k]? = some x := ⟨_, List.getElem?_eq_getElem (by have := H.out.2.2.1; omega)⟩
      obtain ⟨g, o, c, hg, -, -, hcs⟩ := (H.out.1.still hst).pos (by omega)
      cases hg
      obtain ⟨g2, o2, c2, hg2, -, -, hcs2⟩ := (H.out.2.1.still hst).pos (by omega)
      cases hg2
      have hfc : ∀ j, j < 2 → (l.flatMap dtC)[k * 2 + j]? = (dtC x)[j]? := fun j hj => flat_get (sz := 2) (fun _ => rfl) l k j x hx hj
      have c0 : wr.cell? ⟨g, o + k * 2, none⟩ = some (.int .i64 x.page) := hcs (k * 2) _ (hfc 0 (by omega))
      have e0 : wr.cell? ⟨g2, o2 + k * 2, none⟩ = some (.int .i64 x.page) := hcs2 (k * 2) _ (hfc 0 (by omega))
      have c1 : wr.cell? ⟨g, o + k * 2 + 1, none⟩ = some (.int .i64 x.rc) := by rw [Nat.add_assoc]; exact hcs (k * 2 + 1) _ (hfc 1 (by omega))
      have e1 : wr.cell? ⟨g2, o2 + k * 2 + 1, none⟩ = some (.int .i64 x.rc) := by rw [Nat.add_assoc]; exact hcs2 (k * 2 + 1) _ (hfc 1 (by omega))
      have b1 : decide ((k : Int) < (m : Int)) = true := by simp; omega
      have b2 : decide (k < m) = true := by simp; omega
      have b3 : (0 : Int) ≤ (k : Int) := by omega
      have b4 : (k : Int) < (m : Int) := by omega
      have u9 : IntKind.i64.wrap ((k : Int) + 1) = (k : Int) + 1 := IntWalk.i64_in _ (by have := H.out.2.2.2; omega)
      have HT := Lib.hid hdr
      clear hcs hcs2 hx hfc hst hdr
      go_wp2_with fail
      go_quiet (fail)
      go_wp2_with fail
      go_roundw
      case rel => exact ⟨k + 1, by go_num, by omega, HT.out.drewN _⟩
      case measure => simp [intOf]; omega
    · have hke : k = m := by omega
      subst hke
      have b1 : decide ((k : Int) < (k : Int)) = false := by simp
      have F := Lib.hid (show QtPost w (.bool true) (.returned (.bool true)) wr from ⟨rfl, hdr⟩)
      clear hst hdr
      go_wp2_with fail
      go_ret
      exact F.out
set_option maxHeartbeats 1000000 in
set_option maxRecDepth 10000 in
theorem same_op {w : World} {P Q : Nat → Prop} (a b : Value) (m : Nat) (l : List POp) (ha : OpSl w P a m l) (hb : OpSl w Q b m l) (hl : l.length = m) (hm : m ≤ 100000) (hmv : ∀ x ∈ l, x.moves.length ≤ 100000) :
    Calls Tryz.prog 82 #[a, b] w (QtPost w (.bool true)) := by
  obtain ⟨mvs, ha1, ha, ha3⟩ := ha
  obtain ⟨nvs, hb1, hb, hb3⟩ := hb
  have H := Lib.hid (And.intro ha (And.intro hb (And.intro hl hm)))
  have HMS := Lib.hid (And.intro ha1 (And.intro ha3 (And.intro hb1 (And.intro hb3 hmv))))
  obtain ⟨xa, xc, rfl⟩ := ha.form
  obtain ⟨ya, yc, rfl⟩ := hb.form
  clear ha hb hl hm ha1 ha3 hb1 hb3 hmv
  go_enter Tryz.func82, Tryz.ntmps82
  go_wp2_with fail
  go_loopw [5] (fun s wr => ∃ k : Nat, s = .int .i64 k ∧ k ≤ m ∧ Drewn w wr) (fun s _ => m - (intOf s).toNat)
  case atStart => exact ⟨0, rfl, Nat.zero_le _, Drewn.refl _⟩
  case round =>
    obtain ⟨k, rfl, hk, hdr⟩ := hrel
    have hst := hdr.still
    by_cases hi : k < m
    · obtain ⟨x, hx⟩ : ∃ x, l[k]? = some x := ⟨_, List.getElem?_eq_getElem (by have := H.out.2.2.1; omega)⟩
      obtain ⟨mv, hmx⟩ : ∃ mv, mvs[k]? = some mv := ⟨_, List.getElem?_eq_getElem (by have := H.out.2.2.1; have := HMS.out.1; omega)⟩
      obtain ⟨nv, hnx⟩ : ∃ nv, nvs[k]? = some nv := ⟨_, List.getElem?_eq_getElem (by have := H.out.2.2.1; have := HMS.out.2.2.1; omega)⟩
      have HMV := Lib.hid ((HMS.out.2.1 k x mv hx hmx).still hst)
      have HNV := Lib.hid ((HMS.out.2.2.2.1 k x nv hx hnx).still hst)
      have HML := Lib.hid (HMS.out.2.2.2.2 x (List.mem_of_getElem? hx))
      obtain ⟨ma, mc, rfl⟩ := HMV.out.form
      obtain ⟨na, nc, rfl⟩ := HNV.out.form
      obtain ⟨g, o, c, hg, -, -, hcs⟩ := (H.out.1.still hst).pos (by omega)
      cases hg
      obtain ⟨g2, o2, c2, hg2, -, -, hcs2⟩ := (H.out.2.1.still hst).pos (by omega)
      cases hg2
      have hfc : ∀ j, j < 3 → ((l.zip mvs).flatMap opC)[k * 3 + j]? = (opC (x, .slice ma x.moves.length mc))[j]? := fun j hj => flat_get (sz := 3) (fun _ => rfl) (l.zip mvs) k j (x, _) (by rw [List.getElem?_zip_eq_some]; exact ⟨hx, hmx⟩) hj
      have hfd : ∀ j, j < 3 → ((l.zip nvs).flatMap opC)[k * 3 + j]? = (opC (x, .slice na x.moves.length nc))[j]? := fun j hj => flat_get (sz := 3) (fun _ => rfl) (l.zip nvs) k j (x, _) (by rw [List.getElem?_zip_eq_some]; exact ⟨hx, hnx⟩) hj
      have c0 : wr.cell? ⟨g, o + k * 3, none⟩ = some (.int .i64 x.unit) := hcs (k * 3) _ (hfc 0 (by omega))
      have e0 : wr.cell? ⟨g2, o2 + k * 3, none⟩ = some (.int .i64 x.unit) := hcs2 (k * 3) _ (hfd 0 (by omega))
      have c1 : wr.cell? ⟨g, o + k * 3 + 1, none⟩ = some (.slice ma x.moves.length mc) := by rw [Nat.add_assoc]; exact hcs (k * 3 + 1) _ (hfc 1 (by omega))
      have e1 : wr.cell? ⟨g2, o2 + k * 3 + 1, none⟩ = some (.slice na x.moves.length nc) := by rw [Nat.add_assoc]; exact hcs2 (k * 3 + 1) _ (hfd 1 (by omega))
      have c2 : wr.cell? ⟨g, o + k * 3 + 2, none⟩ = some (.int .i64 x.done) := by rw [Nat.add_assoc]; exact hcs (k * 3 + 2) _ (hfc 2 (by omega))
      have e2 : wr.cell? ⟨g2, o2 + k * 3 + 2, none⟩ = some (.int .i64 x.done) := by rw [Nat.add_assoc]; exact hcs2 (k * 3 + 2) _ (hfd 2 (by omega))
      have b1 : decide ((k : Int) < (m : Int)) = true := by simp; omega
      have b2 : decide (k < m) = true := by simp; omega
      have b3 : (0 : Int) ≤ (k : Int) := by omega
      have b4 : (k : Int) < (m : Int) := by omega
      have u9 : IntKind.i64.wrap ((k : Int) + 1) = (k : Int) + 1 := IntWalk.i64_in _ (by have := H.out.2.2.2; omega)
      have HSM := Lib.hid (fun q => same_mv (w := wr.drewN q) (.slice ma x.moves.length mc) (.slice na x.moves.length nc) x.moves.length x.moves (HMV.out.still ((Still.refl _).drewN q)) (HNV.out.still ((Still.refl _).drewN q)) rfl HML.out)
      have HT := Lib.hid hdr
      clear hcs hcs2 hx hfc hfd hst hdr hmx hnx
      go_wp2_with fail
      go_quiet (first | (go_at_call 79; exact Calls.quiet_of (HSM.out _)))
      go_wp2_with fail
      go_roundw
      case rel => exact ⟨k + 1, by go_num, by omega, HT.out.drewN _⟩
      case measure => simp [intOf]; omega
    · have hke : k = m := by omega
      subst hke
      have b1 : decide ((k : Int) < (k : Int)) = false := by simp
      have F := Lib.hid (show QtPost w (.bool true) (.returned (.bool true)) wr from ⟨rfl, hdr⟩)
      clear hst hdr
      go_wp2_with fail
      go_ret
      exact F.out
end Go.Proofs.YtojkggppcmdepaaGreat

namespace Go.Proofs.YtojkggppcmdepaaGreat
open Go.RowKit Go.Wh Go.Maps

/-- An entry in memory, its slices said. -/
abbrev EIx (w : World) (P : Nat → Prop) (e : PE) (o n m l d v : Option Addr) (oc nc mc lc dc vc : Nat) : Prop := EIs w P e (.slice o e.old.length oc) (.slice n e.new.length nc) (.slice m e.moves.length mc) (.slice l e.lives.length lc) (.slice d e.dirty.length dc) (.slice v e.opens.length vc)
theorem PE.small {e : PE} (h : e.may = true) : e.moves.length ≤ 100000 ∧ e.lives.length ≤ 100000 ∧ e.dirty.length ≤ 100000 ∧ e.opens.length ≤ 100000 ∧ ∀ x ∈ e.opens, x.moves.length ≤ 100000 := by
  obtain ⟨-, -, h1, h2, h3, h4⟩ := PE.may_lists h
  refine ⟨by have := (eachB_len h1).1; omega, by have := (eachB_len h2).1; omega, by have := (eachB_len h3).1; omega, by have := (eachB_len h4).1; omega, fun x hx => ?_⟩
  have := (eachB_len h4).2 x hx
  unfold opMay at this
  simp only [Bool.and_eq_true] at this
  have := (eachB_len this.2).1
  omega
set_option maxHeartbeats 8000000 in
set_option maxRecDepth 100000 in
theorem same_entry {w : World} {P Q : Nat → Prop} {e : PE} (xo xn xm xl xd xv yo yn ym yl yd yv : Option Addr) (xoc xnc xmc xlc xdc xvc yoc ync ymc ylc ydc yvc : Nat) (he : e.may = true) (h : EIx w P e xo xn xm xl xd xv xoc xnc xmc xlc xdc xvc) (k : EIx w Q e yo yn ym yl yd yv yoc ync ymc ylc ydc yvc) :
    Calls Tryz.prog 41 #[.agg #[.int .i64 e.kind, .int .i64 e.txn, .int .i64 e.unit, .int .i64 e.half, .int .i64 e.prev, .int .i64 e.next, .int .i64 e.ap, .int .i64 e.ac, .int .i64 e.tp, .int .i64 e.tc, .slice xo e.old.length xoc, .slice xn e.new.length xnc, .slice xm e.moves.length xmc, .slice xl e.lives.length xlc, .slice xd e.dirty.length xdc, .slice xv e.opens.length xvc], .agg #[.int .i64 e.kind, .int .i64 e.txn, .int .i64 e.unit, .int .i64 e.half, .int .i64 e.prev, .int .i64 e.next, .int .i64 e.ap, .int .i64 e.ac, .int .i64 e.tp, .int .i64 e.tc, .slice yo e.old.length yoc, .slice yn e.new.length ync, .slice ym e.moves.length ymc, .slice yl e.lives.length ylc, .slice yd e.dirty.length ydc, .slice yv e.opens.length yvc]] w (StPost w (.bool true)) := by
  have hs : Still w ((w.alloc (.cells #[.int .i64 e.kind, .int .i64 e.txn, .int .i64 e.unit, .int .i64 e.half, .int .i64 e.prev, .int .i64 e.next, .int .i64 e.ap, .int .i64 e.ac, .int .i64 e.tp, .int .i64 e.tc, .slice xo e.old.length xoc, .slice xn e.new.length xnc, .slice xm e.moves.length xmc, .slice xl e.lives.length xlc, .slice xd e.dirty.length xdc, .slice xv e.opens.length xvc] 34)).alloc (.cells #[.int .i64 e.kind, .int .i64 e.txn, .int .i64 e.unit, .int .i64 e.half, .int .i64 e.prev, .int .i64 e.next, .int .i64 e.ap, .int .i64 e.ac, .int .i64 e.tp, .int .i64 e.tc, .slice yo e.old.length yoc, .slice yn e.new.length ync, .slice ym e.moves.length ymc, .slice yl e.lives.length ylc, .slice yd e.dirty.length ydc, .slice yv e.opens.length yvc] 34)) := ((Still.refl w).alloc _).alloc _
  have hz : (w.alloc (.cells #[.int .i64 e.kind, .int .i64 e.txn, .int .i64 e.unit, .int .i64 e.half, .int .i64 e.prev, .int .i64 e.next, .int .i64 e.ap, .int .i64 e.ac, .int .i64 e.tp, .int .i64 e.tc, .slice xo e.old.length xoc, .slice xn e.new.length xnc, .slice xm e.moves.length xmc, .slice xl e.lives.length xlc, .slice xd e.dirty.length xdc, .slice xv e.opens.length xvc] 34)).heap.size = w.heap.size + 1 := by simp
  have cA := (cellsAt_new w [.int .i64 e.kind, .int .i64 e.txn, .int .i64 e.unit, .int .i64 e.half, .int .i64 e.prev, .int .i64 e.next, .int .i64 e.ap, .int .i64 e.ac, .int .i64 e.tp, .int .i64 e.tc, .slice xo e.old.length xoc, .slice xn e.new.length xnc, .slice xm e.moves.length xmc, .slice xl e.lives.length xlc, .slice xd e.dirty.length xdc, .slice xv e.opens.length xvc] 34).alloc (.cells #[.int .i64 e.kind, .int .i64 e.txn, .int .i64 e.unit, .int .i64 e.half, .int .i64 e.prev, .int .i64 e.next, .int .i64 e.ap, .int .i64 e.ac, .int .i64 e.tp, .int .i64 e.tc, .slice yo e.old.length yoc, .slice yn e.new.length ync, .slice ym e.moves.length ymc, .slice yl e.lives.length ylc, .slice yd e.dirty.length ydc, .slice yv e.opens.length yvc] 34)
  have cB := cellsAt_new (w.alloc (.cells #[.int .i64 e.kind, .int .i64 e.txn, .int .i64 e.unit, .int .i64 e.half, .int .i64 e.prev, .int .i64 e.next, .int .i64 e.ap, .int .i64 e.ac, .int .i64 e.tp, .int .i64 e.tc, .slice xo e.old.length xoc, .slice xn e.new.length xnc, .slice xm e.moves.length xmc, .slice xl e.lives.length xlc, .slice xd e.dirty.length xdc, .slice xv e.opens.length xvc] 34)) [.int .i64 e.kind, .int .i64 e.txn, .int .i64 e.unit, .int .i64 e.half, .int .i64 e.prev, .int .i64 e.next, .int .i64 e.ap, .int .i64 e.ac, .int .i64 e.tp, .int .i64 e.tc, .slice yo e.old.length yoc, .slice yn e.new.length ync, .slice ym e.moves.length ymc, .slice yl e.lives.length ylc, .slice yd e.dirty.length ydc, .slice yv e.opens.length yvc] 34
  rw [hz] at cB
  have HK := Lib.hid (fun w' (hs' : Still ((w.alloc (.cells #[.int .i64 e.kind, .int .i64 e.txn, .int .i64 e.unit, .int .i64 e.half, .int .i64 e.prev, .int .i64 e.next, .int .i64 e.ap, .int .i64 e.ac, .int .i64 e.tp, .int .i64 e.tc, .slice xo e.old.length xoc, .slice xn e.new.length xnc, .slice xm e.moves.length xmc, .slice xl e.lives.length xlc, .slice xd e.dirty.length xdc, .slice xv e.opens.length xvc] 34)).alloc (.cells #[.int .i64 e.kind, .int .i64 e.txn, .int .i64 e.unit, .int .i64 e.half, .int .i64 e.prev, .int .i64 e.next, .int .i64 e.ap, .int .i64 e.ac, .int .i64 e.tp, .int .i64 e.tc, .slice yo e.old.length yoc, .slice yn e.new.length ync, .slice ym e.moves.length ymc, .slice yl e.lives.length ylc, .slice yd e.dirty.length ydc, .slice yv e.opens.length yvc] 34)) w') => show (w'.cell? ⟨w.heap.size, 13, none⟩ = some (.slice xl e.lives.length xlc) ∧ w'.cell? ⟨w.heap.size + 1, 13, none⟩ = some (.slice yl e.lives.length ylc)) ∧ (w'.cell? ⟨w.heap.size, 14, none⟩ = some (.slice xd e.dirty.length xdc) ∧ w'.cell? ⟨w.heap.size + 1, 14, none⟩ = some (.slice yd e.dirty.length ydc)) ∧ (w'.cell? ⟨w.heap.size, 15, none⟩ = some (.slice xv e.opens.length xvc) ∧ w'.cell? ⟨w.heap.size + 1, 15, none⟩ = some (.slice yv e.opens.length yvc)) from
    have kA := cA.only hs' fun e => e
    have kB := cB.only hs' fun e => e
    ⟨⟨kA.cell 13, kB.cell 13⟩, ⟨kA.cell 14, kB.cell 14⟩, ⟨kA.cell 15, kB.cell 15⟩⟩)
  have v1 := conv_sl (h.o.still hs)
  have v2 := conv_sl (h.n.still hs)
  have v3 := conv_sl (k.o.still hs)
  have v4 := conv_sl (k.n.still hs)
  have a0 : ((w.alloc (.cells #[.int .i64 e.kind, .int .i64 e.txn, .int .i64 e.unit, .int .i64 e.half, .int .i64 e.prev, .int .i64 e.next, .int .i64 e.ap, .int .i64 e.ac, .int .i64 e.tp, .int .i64 e.tc, .slice xo e.old.length xoc, .slice xn e.new.length xnc, .slice xm e.moves.length xmc, .slice xl e.lives.length xlc, .slice xd e.dirty.length xdc, .slice xv e.opens.length xvc] 34)).alloc (.cells #[.int .i64 e.kind, .int .i64 e.txn, .int .i64 e.unit, .int .i64 e.half, .int .i64 e.prev, .int .i64 e.next, .int .i64 e.ap, .int .i64 e.ac, .int .i64 e.tp, .int .i64 e.tc, .slice yo e.old.length yoc, .slice yn e.new.length ync, .slice ym e.moves.length ymc, .slice yl e.lives.length ylc, .slice yd e.dirty.length ydc, .slice yv e.opens.length yvc] 34)).cell? ⟨w.heap.size, 0, none⟩ = some (.int .i64 e.kind) := cA.cell 0
  have b0 : ((w.alloc (.cells #[.int .i64 e.kind, .int .i64 e.txn, .int .i64 e.unit, .int .i64 e.half, .int .i64 e.prev, .int .i64 e.next, .int .i64 e.ap, .int .i64 e.ac, .int .i64 e.tp, .int .i64 e.tc, .slice xo e.old.length xoc, .slice xn e.new.length xnc, .slice xm e.moves.length xmc, .slice xl e.lives.length xlc, .slice xd e.dirty.length xdc, .slice xv e.opens.length xvc] 34)).alloc (.cells #[.int .i64 e.kind, .int .i64 e.txn, .int .i64 e.unit, .int .i64 e.half, .int .i64 e.prev, .int .i64 e.next, .int .i64 e.ap, .int .i64 e.ac, .int .i64 e.tp, .int .i64 e.tc, .slice yo e.old.length yoc, .slice yn e.new.length ync, .slice ym e.moves.length ymc, .slice yl e.lives.length ylc, .slice yd e.dirty.length ydc, .slice yv e.opens.length yvc] 34)).cell? ⟨w.heap.size + 1, 0, none⟩ = some (.int .i64 e.kind) := cB.cell 0
  have a1 : ((w.alloc (.cells #[.int .i64 e.kind, .int .i64 e.txn, .int .i64 e.unit, .int .i64 e.half, .int .i64 e.prev, .int .i64 e.next, .int .i64 e.ap, .int .i64 e.ac, .int .i64 e.tp, .int .i64 e.tc, .slice xo e.old.length xoc, .slice xn e.new.length xnc, .slice xm e.moves.length xmc, .slice xl e.lives.length xlc, .slice xd e.dirty.length xdc, .slice xv e.opens.length xvc] 34)).alloc (.cells #[.int .i64 e.kind, .int .i64 e.txn, .int .i64 e.unit, .int .i64 e.half, .int .i64 e.prev, .int .i64 e.next, .int .i64 e.ap, .int .i64 e.ac, .int .i64 e.tp, .int .i64 e.tc, .slice yo e.old.length yoc, .slice yn e.new.length ync, .slice ym e.moves.length ymc, .slice yl e.lives.length ylc, .slice yd e.dirty.length ydc, .slice yv e.opens.length yvc] 34)).cell? ⟨w.heap.size, 1, none⟩ = some (.int .i64 e.txn) := cA.cell 1
  have b1 : ((w.alloc (.cells #[.int .i64 e.kind, .int .i64 e.txn, .int .i64 e.unit, .int .i64 e.half, .int .i64 e.prev, .int .i64 e.next, .int .i64 e.ap, .int .i64 e.ac, .int .i64 e.tp, .int .i64 e.tc, .slice xo e.old.length xoc, .slice xn e.new.length xnc, .slice xm e.moves.length xmc, .slice xl e.lives.length xlc, .slice xd e.dirty.length xdc, .slice xv e.opens.length xvc] 34)).alloc (.cells #[.int .i64 e.kind, .int .i64 e.txn, .int .i64 e.unit, .int .i64 e.half, .int .i64 e.prev, .int .i64 e.next, .int .i64 e.ap, .int .i64 e.ac, .int .i64 e.tp, .int .i64 e.tc, .slice yo e.old.length yoc, .slice yn e.new.length ync, .slice ym e.moves.length ymc, .slice yl e.lives.length ylc, .slice yd e.dirty.length ydc, .slice yv e.opens.length yvc] 34)).cell? ⟨w.heap.size + 1, 1, none⟩ = some (.int .i64 e.txn) := cB.cell 1
  have a2 : ((w.alloc (.cells #[.int .i64 e.kind, .int .i64 e.txn, .int .i64 e.unit, .int .i64 e.half, .int .i64 e.prev, .int .i64 e.next, .int .i64 e.ap, .int .i64 e.ac, .int .i64 e.tp, .int .i64 e.tc, .slice xo e.old.length xoc, .slice xn e.new.length xnc, .slice xm e.moves.length xmc, .slice xl e.lives.length xlc, .slice xd e.dirty.length xdc, .slice xv e.opens.length xvc] 34)).alloc (.cells #[.int .i64 e.kind, .int .i64 e.txn, .int .i64 e.unit, .int .i64 e.half, .int .i64 e.prev, .int .i64 e.next, .int .i64 e.ap, .int .i64 e.ac, .int .i64 e.tp, .int .i64 e.tc, .slice yo e.old.length yoc, .slice yn e.new.length ync, .slice ym e.moves.length ymc, .slice yl e.lives.length ylc, .slice yd e.dirty.length ydc, .slice yv e.opens.length yvc] 34)).cell? ⟨w.heap.size, 2, none⟩ = some (.int .i64 e.unit) := cA.cell 2
  have b2 : ((w.alloc (.cells #[.int .i64 e.kind, .int .i64 e.txn, .int .i64 e.unit, .int .i64 e.half, .int .i64 e.prev, .int .i64 e.next, .int .i64 e.ap, .int .i64 e.ac, .int .i64 e.tp, .int .i64 e.tc, .slice xo e.old.length xoc, .slice xn e.new.length xnc, .slice xm e.moves.length xmc, .slice xl e.lives.length xlc, .slice xd e.dirty.length xdc, .slice xv e.opens.length xvc] 34)).alloc (.cells #[.int .i64 e.kind, .int .i64 e.txn, .int .i64 e.unit, .int .i64 e.half, .int .i64 e.prev, .int .i64 e.next, .int .i64 e.ap, .int .i64 e.ac, .int .i64 e.tp, .int .i64 e.tc, .slice yo e.old.length yoc, .slice yn e.new.length ync, .slice ym e.moves.length ymc, .slice yl e.lives.length ylc, .slice yd e.dirty.length ydc, .slice yv e.opens.length yvc] 34)).cell? ⟨w.heap.size + 1, 2, none⟩ = some (.int .i64 e.unit) := cB.cell 2
  have a3 : ((w.alloc (.cells #[.int .i64 e.kind, .int .i64 e.txn, .int .i64 e.unit, .int .i64 e.half, .int .i64 e.prev, .int .i64 e.next, .int .i64 e.ap, .int .i64 e.ac, .int .i64 e.tp, .int .i64 e.tc, .slice xo e.old.length xoc, .slice xn e.new.length xnc, .slice xm e.moves.length xmc, .slice xl e.lives.length xlc, .slice xd e.dirty.length xdc, .slice xv e.opens.length xvc] 34)).alloc (.cells #[.int .i64 e.kind, .int .i64 e.txn, .int .i64 e.unit, .int .i64 e.half, .int .i64 e.prev, .int .i64 e.next, .int .i64 e.ap, .int .i64 e.ac, .int .i64 e.tp, .int .i64 e.tc, .slice yo e.old.length yoc, .slice yn e.new.length ync, .slice ym e.moves.length ymc, .slice yl e.lives.length ylc, .slice yd e.dirty.length ydc, .slice yv e.opens.length yvc] 34)).cell? ⟨w.heap.size, 3, none⟩ = some (.int .i64 e.half) := cA.cell 3
  have b3 : ((w.alloc (.cells #[.int .i64 e.kind, .int .i64 e.txn, .int .i64 e.unit, .int .i64 e.half, .int .i64 e.prev, .int .i64 e.next, .int .i64 e.ap, .int .i64 e.ac, .int .i64 e.tp, .int .i64 e.tc, .slice xo e.old.length xoc, .slice xn e.new.length xnc, .slice xm e.moves.length xmc, .slice xl e.lives.length xlc, .slice xd e.dirty.length xdc, .slice xv e.opens.length xvc] 34)).alloc (.cells #[.int .i64 e.kind, .int .i64 e.txn, .int .i64 e.unit, .int .i64 e.half, .int .i64 e.prev, .int .i64 e.next, .int .i64 e.ap, .int .i64 e.ac, .int .i64 e.tp, .int .i64 e.tc, .slice yo e.old.length yoc, .slice yn e.new.length ync, .slice ym e.moves.length ymc, .slice yl e.lives.length ylc, .slice yd e.dirty.length ydc, .slice yv e.opens.length yvc] 34)).cell? ⟨w.heap.size + 1, 3, none⟩ = some (.int .i64 e.half) := cB.cell 3
  have a4 : ((w.alloc (.cells #[.int .i64 e.kind, .int .i64 e.txn, .int .i64 e.unit, .int .i64 e.half, .int .i64 e.prev, .int .i64 e.next, .int .i64 e.ap, .int .i64 e.ac, .int .i64 e.tp, .int .i64 e.tc, .slice xo e.old.length xoc, .slice xn e.new.length xnc, .slice xm e.moves.length xmc, .slice xl e.lives.length xlc, .slice xd e.dirty.length xdc, .slice xv e.opens.length xvc] 34)).alloc (.cells #[.int .i64 e.kind, .int .i64 e.txn, .int .i64 e.unit, .int .i64 e.half, .int .i64 e.prev, .int .i64 e.next, .int .i64 e.ap, .int .i64 e.ac, .int .i64 e.tp, .int .i64 e.tc, .slice yo e.old.length yoc, .slice yn e.new.length ync, .slice ym e.moves.length ymc, .slice yl e.lives.length ylc, .slice yd e.dirty.length ydc, .slice yv e.opens.length yvc] 34)).cell? ⟨w.heap.size, 4, none⟩ = some (.int .i64 e.prev) := cA.cell 4
  have b4 : ((w.alloc (.cells #[.int .i64 e.kind, .int .i64 e.txn, .int .i64 e.unit, .int .i64 e.half, .int .i64 e.prev, .int .i64 e.next, .int .i64 e.ap, .int .i64 e.ac, .int .i64 e.tp, .int .i64 e.tc, .slice xo e.old.length xoc, .slice xn e.new.length xnc, .slice xm e.moves.length xmc, .slice xl e.lives.length xlc, .slice xd e.dirty.length xdc, .slice xv e.opens.length xvc] 34)).alloc (.cells #[.int .i64 e.kind, .int .i64 e.txn, .int .i64 e.unit, .int .i64 e.half, .int .i64 e.prev, .int .i64 e.next, .int .i64 e.ap, .int .i64 e.ac, .int .i64 e.tp, .int .i64 e.tc, .slice yo e.old.length yoc, .slice yn e.new.length ync, .slice ym e.moves.length ymc, .slice yl e.lives.length ylc, .slice yd e.dirty.length ydc, .slice yv e.opens.length yvc] 34)).cell? ⟨w.heap.size + 1, 4, none⟩ = some (.int .i64 e.prev) := cB.cell 4
  have a5 : ((w.alloc (.cells #[.int .i64 e.kind, .int .i64 e.txn, .int .i64 e.unit, .int .i64 e.half, .int .i64 e.prev, .int .i64 e.next, .int .i64 e.ap, .int .i64 e.ac, .int .i64 e.tp, .int .i64 e.tc, .slice xo e.old.length xoc, .slice xn e.new.length xnc, .slice xm e.moves.length xmc, .slice xl e.lives.length xlc, .slice xd e.dirty.length xdc, .slice xv e.opens.length xvc] 34)).alloc (.cells #[.int .i64 e.kind, .int .i64 e.txn, .int .i64 e.unit, .int .i64 e.half, .int .i64 e.prev, .int .i64 e.next, .int .i64 e.ap, .int .i64 e.ac, .int .i64 e.tp, .int .i64 e.tc, .slice yo e.old.length yoc, .slice yn e.new.length ync, .slice ym e.moves.length ymc, .slice yl e.lives.length ylc, .slice yd e.dirty.length ydc, .slice yv e.opens.length yvc] 34)).cell? ⟨w.heap.size, 5, none⟩ = some (.int .i64 e.next) := cA.cell 5
  have b5 : ((w.alloc (.cells #[.int .i64 e.kind, .int .i64 e.txn, .int .i64 e.unit, .int .i64 e.half, .int .i64 e.prev, .int .i64 e.next, .int .i64 e.ap, .int .i64 e.ac, .int .i64 e.tp, .int .i64 e.tc, .slice xo e.old.length xoc, .slice xn e.new.length xnc, .slice xm e.moves.length xmc, .slice xl e.lives.length xlc, .slice xd e.dirty.length xdc, .slice xv e.opens.length xvc] 34)).alloc (.cells #[.int .i64 e.kind, .int .i64 e.txn, .int .i64 e.unit, .int .i64 e.half, .int .i64 e.prev, .int .i64 e.next, .int .i64 e.ap, .int .i64 e.ac, .int .i64 e.tp, .int .i64 e.tc, .slice yo e.old.length yoc, .slice yn e.new.length ync, .slice ym e.moves.length ymc, .slice yl e.lives.length ylc, .slice yd e.dirty.length ydc, .slice yv e.opens.length yvc] 34)).cell? ⟨w.heap.size + 1, 5, none⟩ = some (.int .i64 e.next) := cB.cell 5
  have a6 : ((w.alloc (.cells #[.int .i64 e.kind, .int .i64 e.txn, .int .i64 e.unit, .int .i64 e.half, .int .i64 e.prev, .int .i64 e.next, .int .i64 e.ap, .int .i64 e.ac, .int .i64 e.tp, .int .i64 e.tc, .slice xo e.old.length xoc, .slice xn e.new.length xnc, .slice xm e.moves.length xmc, .slice xl e.lives.length xlc, .slice xd e.dirty.length xdc, .slice xv e.opens.length xvc] 34)).alloc (.cells #[.int .i64 e.kind, .int .i64 e.txn, .int .i64 e.unit, .int .i64 e.half, .int .i64 e.prev, .int .i64 e.next, .int .i64 e.ap, .int .i64 e.ac, .int .i64 e.tp, .int .i64 e.tc, .slice yo e.old.length yoc, .slice yn e.new.length ync, .slice ym e.moves.length ymc, .slice yl e.lives.length ylc, .slice yd e.dirty.length ydc, .slice yv e.opens.length yvc] 34)).cell? ⟨w.heap.size, 6, none⟩ = some (.int .i64 e.ap) := cA.cell 6
  have b6 : ((w.alloc (.cells #[.int .i64 e.kind, .int .i64 e.txn, .int .i64 e.unit, .int .i64 e.half, .int .i64 e.prev, .int .i64 e.next, .int .i64 e.ap, .int .i64 e.ac, .int .i64 e.tp, .int .i64 e.tc, .slice xo e.old.length xoc, .slice xn e.new.length xnc, .slice xm e.moves.length xmc, .slice xl e.lives.length xlc, .slice xd e.dirty.length xdc, .slice xv e.opens.length xvc] 34)).alloc (.cells #[.int .i64 e.kind, .int .i64 e.txn, .int .i64 e.unit, .int .i64 e.half, .int .i64 e.prev, .int .i64 e.next, .int .i64 e.ap, .int .i64 e.ac, .int .i64 e.tp, .int .i64 e.tc, .slice yo e.old.length yoc, .slice yn e.new.length ync, .slice ym e.moves.length ymc, .slice yl e.lives.length ylc, .slice yd e.dirty.length ydc, .slice yv e.opens.length yvc] 34)).cell? ⟨w.heap.size + 1, 6, none⟩ = some (.int .i64 e.ap) := cB.cell 6
  have a7 : ((w.alloc (.cells #[.int .i64 e.kind, .int .i64 e.txn, .int .i64 e.unit, .int .i64 e.half, .int .i64 e.prev, .int .i64 e.next, .int .i64 e.ap, .int .i64 e.ac, .int .i64 e.tp, .int .i64 e.tc, .slice xo e.old.length xoc, .slice xn e.new.length xnc, .slice xm e.moves.length xmc, .slice xl e.lives.length xlc, .slice xd e.dirty.length xdc, .slice xv e.opens.length xvc] 34)).alloc (.cells #[.int .i64 e.kind, .int .i64 e.txn, .int .i64 e.unit, .int .i64 e.half, .int .i64 e.prev, .int .i64 e.next, .int .i64 e.ap, .int .i64 e.ac, .int .i64 e.tp, .int .i64 e.tc, .slice yo e.old.length yoc, .slice yn e.new.length ync, .slice ym e.moves.length ymc, .slice yl e.lives.length ylc, .slice yd e.dirty.length ydc, .slice yv e.opens.length yvc] 34)).cell? ⟨w.heap.size, 7, none⟩ = some (.int .i64 e.ac) := cA.cell 7
  have b7 : ((w.alloc (.cells #[.int .i64 e.kind, .int .i64 e.txn, .int .i64 e.unit, .int .i64 e.half, .int .i64 e.prev, .int .i64 e.next, .int .i64 e.ap, .int .i64 e.ac, .int .i64 e.tp, .int .i64 e.tc, .slice xo e.old.length xoc, .slice xn e.new.length xnc, .slice xm e.moves.length xmc, .slice xl e.lives.length xlc, .slice xd e.dirty.length xdc, .slice xv e.opens.length xvc] 34)).alloc (.cells #[.int .i64 e.kind, .int .i64 e.txn, .int .i64 e.unit, .int .i64 e.half, .int .i64 e.prev, .int .i64 e.next, .int .i64 e.ap, .int .i64 e.ac, .int .i64 e.tp, .int .i64 e.tc, .slice yo e.old.length yoc, .slice yn e.new.length ync, .slice ym e.moves.length ymc, .slice yl e.lives.length ylc, .slice yd e.dirty.length ydc, .slice yv e.opens.length yvc] 34)).cell? ⟨w.heap.size + 1, 7, none⟩ = some (.int .i64 e.ac) := cB.cell 7
  have a8 : ((w.alloc (.cells #[.int .i64 e.kind, .int .i64 e.txn, .int .i64 e.unit, .int .i64 e.half, .int .i64 e.prev, .int .i64 e.next, .int .i64 e.ap, .int .i64 e.ac, .int .i64 e.tp, .int .i64 e.tc, .slice xo e.old.length xoc, .slice xn e.new.length xnc, .slice xm e.moves.length xmc, .slice xl e.lives.length xlc, .slice xd e.dirty.length xdc, .slice xv e.opens.length xvc] 34)).alloc (.cells #[.int .i64 e.kind, .int .i64 e.txn, .int .i64 e.unit, .int .i64 e.half, .int .i64 e.prev, .int .i64 e.next, .int .i64 e.ap, .int .i64 e.ac, .int .i64 e.tp, .int .i64 e.tc, .slice yo e.old.length yoc, .slice yn e.new.length ync, .slice ym e.moves.length ymc, .slice yl e.lives.length ylc, .slice yd e.dirty.length ydc, .slice yv e.opens.length yvc] 34)).cell? ⟨w.heap.size, 8, none⟩ = some (.int .i64 e.tp) := cA.cell 8
  have b8 : ((w.alloc (.cells #[.int .i64 e.kind, .int .i64 e.txn, .int .i64 e.unit, .int .i64 e.half, .int .i64 e.prev, .int .i64 e.next, .int .i64 e.ap, .int .i64 e.ac, .int .i64 e.tp, .int .i64 e.tc, .slice xo e.old.length xoc, .slice xn e.new.length xnc, .slice xm e.moves.length xmc, .slice xl e.lives.length xlc, .slice xd e.dirty.length xdc, .slice xv e.opens.length xvc] 34)).alloc (.cells #[.int .i64 e.kind, .int .i64 e.txn, .int .i64 e.unit, .int .i64 e.half, .int .i64 e.prev, .int .i64 e.next, .int .i64 e.ap, .int .i64 e.ac, .int .i64 e.tp, .int .i64 e.tc, .slice yo e.old.length yoc, .slice yn e.new.length ync, .slice ym e.moves.length ymc, .slice yl e.lives.length ylc, .slice yd e.dirty.length ydc, .slice yv e.opens.length yvc] 34)).cell? ⟨w.heap.size + 1, 8, none⟩ = some (.int .i64 e.tp) := cB.cell 8
  have a9 : ((w.alloc (.cells #[.int .i64 e.kind, .int .i64 e.txn, .int .i64 e.unit, .int .i64 e.half, .int .i64 e.prev, .int .i64 e.next, .int .i64 e.ap, .int .i64 e.ac, .int .i64 e.tp, .int .i64 e.tc, .slice xo e.old.length xoc, .slice xn e.new.length xnc, .slice xm e.moves.length xmc, .slice xl e.lives.length xlc, .slice xd e.dirty.length xdc, .slice xv e.opens.length xvc] 34)).alloc (.cells #[.int .i64 e.kind, .int .i64 e.txn, .int .i64 e.unit, .int .i64 e.half, .int .i64 e.prev, .int .i64 e.next, .int .i64 e.ap, .int .i64 e.ac, .int .i64 e.tp, .int .i64 e.tc, .slice yo e.old.length yoc, .slice yn e.new.length ync, .slice ym e.moves.length ymc, .slice yl e.lives.length ylc, .slice yd e.dirty.length ydc, .slice yv e.opens.length yvc] 34)).cell? ⟨w.heap.size, 9, none⟩ = some (.int .i64 e.tc) := cA.cell 9
  have b9 : ((w.alloc (.cells #[.int .i64 e.kind, .int .i64 e.txn, .int .i64 e.unit, .int .i64 e.half, .int .i64 e.prev, .int .i64 e.next, .int .i64 e.ap, .int .i64 e.ac, .int .i64 e.tp, .int .i64 e.tc, .slice xo e.old.length xoc, .slice xn e.new.length xnc, .slice xm e.moves.length xmc, .slice xl e.lives.length xlc, .slice xd e.dirty.length xdc, .slice xv e.opens.length xvc] 34)).alloc (.cells #[.int .i64 e.kind, .int .i64 e.txn, .int .i64 e.unit, .int .i64 e.half, .int .i64 e.prev, .int .i64 e.next, .int .i64 e.ap, .int .i64 e.ac, .int .i64 e.tp, .int .i64 e.tc, .slice yo e.old.length yoc, .slice yn e.new.length ync, .slice ym e.moves.length ymc, .slice yl e.lives.length ylc, .slice yd e.dirty.length ydc, .slice yv e.opens.length yvc] 34)).cell? ⟨w.heap.size + 1, 9, none⟩ = some (.int .i64 e.tc) := cB.cell 9
  have a10 : ((w.alloc (.cells #[.int .i64 e.kind, .int .i64 e.txn, .int .i64 e.unit, .int .i64 e.half, .int .i64 e.prev, .int .i64 e.next, .int .i64 e.ap, .int .i64 e.ac, .int .i64 e.tp, .int .i64 e.tc, .slice xo e.old.length xoc, .slice xn e.new.length xnc, .slice xm e.moves.length xmc, .slice xl e.lives.length xlc, .slice xd e.dirty.length xdc, .slice xv e.opens.length xvc] 34)).alloc (.cells #[.int .i64 e.kind, .int .i64 e.txn, .int .i64 e.unit, .int .i64 e.half, .int .i64 e.prev, .int .i64 e.next, .int .i64 e.ap, .int .i64 e.ac, .int .i64 e.tp, .int .i64 e.tc, .slice yo e.old.length yoc, .slice yn e.new.length ync, .slice ym e.moves.length ymc, .slice yl e.lives.length ylc, .slice yd e.dirty.length ydc, .slice yv e.opens.length yvc] 34)).cell? ⟨w.heap.size, 10, none⟩ = some (.slice xo e.old.length xoc) := cA.cell 10
  have b10 : ((w.alloc (.cells #[.int .i64 e.kind, .int .i64 e.txn, .int .i64 e.unit, .int .i64 e.half, .int .i64 e.prev, .int .i64 e.next, .int .i64 e.ap, .int .i64 e.ac, .int .i64 e.tp, .int .i64 e.tc, .slice xo e.old.length xoc, .slice xn e.new.length xnc, .slice xm e.moves.length xmc, .slice xl e.lives.length xlc, .slice xd e.dirty.length xdc, .slice xv e.opens.length xvc] 34)).alloc (.cells #[.int .i64 e.kind, .int .i64 e.txn, .int .i64 e.unit, .int .i64 e.half, .int .i64 e.prev, .int .i64 e.next, .int .i64 e.ap, .int .i64 e.ac, .int .i64 e.tp, .int .i64 e.tc, .slice yo e.old.length yoc, .slice yn e.new.length ync, .slice ym e.moves.length ymc, .slice yl e.lives.length ylc, .slice yd e.dirty.length ydc, .slice yv e.opens.length yvc] 34)).cell? ⟨w.heap.size + 1, 10, none⟩ = some (.slice yo e.old.length yoc) := cB.cell 10
  have a11 : ((w.alloc (.cells #[.int .i64 e.kind, .int .i64 e.txn, .int .i64 e.unit, .int .i64 e.half, .int .i64 e.prev, .int .i64 e.next, .int .i64 e.ap, .int .i64 e.ac, .int .i64 e.tp, .int .i64 e.tc, .slice xo e.old.length xoc, .slice xn e.new.length xnc, .slice xm e.moves.length xmc, .slice xl e.lives.length xlc, .slice xd e.dirty.length xdc, .slice xv e.opens.length xvc] 34)).alloc (.cells #[.int .i64 e.kind, .int .i64 e.txn, .int .i64 e.unit, .int .i64 e.half, .int .i64 e.prev, .int .i64 e.next, .int .i64 e.ap, .int .i64 e.ac, .int .i64 e.tp, .int .i64 e.tc, .slice yo e.old.length yoc, .slice yn e.new.length ync, .slice ym e.moves.length ymc, .slice yl e.lives.length ylc, .slice yd e.dirty.length ydc, .slice yv e.opens.length yvc] 34)).cell? ⟨w.heap.size, 11, none⟩ = some (.slice xn e.new.length xnc) := cA.cell 11
  have b11 : ((w.alloc (.cells #[.int .i64 e.kind, .int .i64 e.txn, .int .i64 e.unit, .int .i64 e.half, .int .i64 e.prev, .int .i64 e.next, .int .i64 e.ap, .int .i64 e.ac, .int .i64 e.tp, .int .i64 e.tc, .slice xo e.old.length xoc, .slice xn e.new.length xnc, .slice xm e.moves.length xmc, .slice xl e.lives.length xlc, .slice xd e.dirty.length xdc, .slice xv e.opens.length xvc] 34)).alloc (.cells #[.int .i64 e.kind, .int .i64 e.txn, .int .i64 e.unit, .int .i64 e.half, .int .i64 e.prev, .int .i64 e.next, .int .i64 e.ap, .int .i64 e.ac, .int .i64 e.tp, .int .i64 e.tc, .slice yo e.old.length yoc, .slice yn e.new.length ync, .slice ym e.moves.length ymc, .slice yl e.lives.length ylc, .slice yd e.dirty.length ydc, .slice yv e.opens.length yvc] 34)).cell? ⟨w.heap.size + 1, 11, none⟩ = some (.slice yn e.new.length ync) := cB.cell 11
  have a12 : ((w.alloc (.cells #[.int .i64 e.kind, .int .i64 e.txn, .int .i64 e.unit, .int .i64 e.half, .int .i64 e.prev, .int .i64 e.next, .int .i64 e.ap, .int .i64 e.ac, .int .i64 e.tp, .int .i64 e.tc, .slice xo e.old.length xoc, .slice xn e.new.length xnc, .slice xm e.moves.length xmc, .slice xl e.lives.length xlc, .slice xd e.dirty.length xdc, .slice xv e.opens.length xvc] 34)).alloc (.cells #[.int .i64 e.kind, .int .i64 e.txn, .int .i64 e.unit, .int .i64 e.half, .int .i64 e.prev, .int .i64 e.next, .int .i64 e.ap, .int .i64 e.ac, .int .i64 e.tp, .int .i64 e.tc, .slice yo e.old.length yoc, .slice yn e.new.length ync, .slice ym e.moves.length ymc, .slice yl e.lives.length ylc, .slice yd e.dirty.length ydc, .slice yv e.opens.length yvc] 34)).cell? ⟨w.heap.size, 12, none⟩ = some (.slice xm e.moves.length xmc) := cA.cell 12
  have b12 : ((w.alloc (.cells #[.int .i64 e.kind, .int .i64 e.txn, .int .i64 e.unit, .int .i64 e.half, .int .i64 e.prev, .int .i64 e.next, .int .i64 e.ap, .int .i64 e.ac, .int .i64 e.tp, .int .i64 e.tc, .slice xo e.old.length xoc, .slice xn e.new.length xnc, .slice xm e.moves.length xmc, .slice xl e.lives.length xlc, .slice xd e.dirty.length xdc, .slice xv e.opens.length xvc] 34)).alloc (.cells #[.int .i64 e.kind, .int .i64 e.txn, .int .i64 e.unit, .int .i64 e.half, .int .i64 e.prev, .int .i64 e.next, .int .i64 e.ap, .int .i64 e.ac, .int .i64 e.tp, .int .i64 e.tc, .slice yo e.old.length yoc, .slice yn e.new.length ync, .slice ym e.moves.length ymc, .slice yl e.lives.length ylc, .slice yd e.dirty.length ydc, .slice yv e.opens.length yvc] 34)).cell? ⟨w.heap.size + 1, 12, none⟩ = some (.slice ym e.moves.length ymc) := cB.cell 12
  have hsm := PE.small he
  have HM := Lib.hid (fun w' (hs' : Still w w') => same_mv (w := w') (.slice xm e.moves.length xmc) (.slice ym e.moves.length ymc) e.moves.length e.moves (h.m.still hs') (k.m.still hs') rfl hsm.1)
  have HL := Lib.hid (fun w' (hs' : Still w w') => same_lv (w := w') (.slice xl e.lives.length xlc) (.slice yl e.lives.length ylc) e.lives.length e.lives (h.l.still hs') (k.l.still hs') rfl hsm.2.1)
  have HD := Lib.hid (fun w' (hs' : Still w w') => same_dt (w := w') (.slice xd e.dirty.length xdc) (.slice yd e.dirty.length ydc) e.dirty.length e.dirty (h.d.still hs') (k.d.still hs') rfl hsm.2.2.1)
  have HV := Lib.hid (fun w' (hs' : Still w w') => same_op (w := w') (.slice xv e.opens.length xvc) (.slice yv e.opens.length yvc) e.opens.length e.opens (h.p.only hs' fun _ _ e => e) (k.p.only hs' fun _ _ e => e) rfl hsm.2.2.2.1 hsm.2.2.2.2)
  have HS := Lib.hid hs
  have HR := Lib.hid (Still.refl ((w.alloc (.cells #[.int .i64 e.kind, .int .i64 e.txn, .int .i64 e.unit, .int .i64 e.half, .int .i64 e.prev, .int .i64 e.next, .int .i64 e.ap, .int .i64 e.ac, .int .i64 e.tp, .int .i64 e.tc, .slice xo e.old.length xoc, .slice xn e.new.length xnc, .slice xm e.moves.length xmc, .slice xl e.lives.length xlc, .slice xd e.dirty.length xdc, .slice xv e.opens.length xvc] 34)).alloc (.cells #[.int .i64 e.kind, .int .i64 e.txn, .int .i64 e.unit, .int .i64 e.half, .int .i64 e.prev, .int .i64 e.next, .int .i64 e.ap, .int .i64 e.ac, .int .i64 e.tp, .int .i64 e.tc, .slice yo e.old.length yoc, .slice yn e.new.length ync, .slice ym e.moves.length ymc, .slice yl e.lives.length ylc, .slice yd e.dirty.length ydc, .slice yv e.opens.length yvc] 34)))
  clear h k hs cA cB hz he hsm
  go_enter Tryz.func41, Tryz.ntmps41
  go_wp2_with fail
  refine (HM.out _ HS.out).mono ?_
  rintro en w2 ⟨rfl, hd2⟩
  have hs2 := hd2.still
  have HS2 := Lib.hid (And.intro (HS.out.trans hs2) hs2)
  obtain ⟨⟨p1, p2⟩, -, -⟩ := HK.out _ HS2.out.2
  clear hs2 hd2
  go_wp2_with fail
  refine (HL.out _ HS2.out.1).mono ?_
  rintro en w3 ⟨rfl, hd3⟩
  have hs3 := hd3.still
  have HS3 := Lib.hid (And.intro (HS2.out.1.trans hs3) (HS2.out.2.trans hs3))
  obtain ⟨-, ⟨p3, p4⟩, -⟩ := HK.out _ HS3.out.2
  clear hs3 hd3
  go_wp2_with fail
  refine (HD.out _ HS3.out.1).mono ?_
  rintro en w4 ⟨rfl, hd4⟩
  have hs4 := hd4.still
  have HS4 := Lib.hid (And.intro (HS3.out.1.trans hs4) (HS3.out.2.trans hs4))
  obtain ⟨-, -, p5, p6⟩ := HK.out _ HS4.out.2
  clear hs4 hd4
  go_wp2_with fail
  refine (HV.out _ HS4.out.1).mono ?_
  rintro en w5 ⟨rfl, hd5⟩
  have hs5 := hd5.still
  have F := Lib.hid (show StPost w (.bool true) (.returned (.bool true)) w5 from ⟨rfl, HS4.out.1.trans hs5⟩)
  clear hs5 hd5
  go_wp2_with fail
  go_ret
  exact F.out
end Go.Proofs.YtojkggppcmdepaaGreat

namespace Go.Proofs.YtojkggppcmdepaaGreat
open Go.RowKit Go.Wh Go.Maps

theorem Ents.still2 {w w' : World} {P : Nat → Prop} {lv : Value} {es : List PE} (h : Ents w P lv es) (hs : Still w w') : Ents w' P lv es := h.still hs
set_option maxHeartbeats 8000000 in
set_option maxRecDepth 100000 in
theorem same_entries {w : World} {P Q : Nat → Prop} (a b : Value) (es : List PE) (ha : Ents w P a es) (hb : Ents w Q b es) (hm : ∀ e ∈ es, e.may = true) (hl : es.length ≤ 100000) :
    Calls Tryz.prog 12 #[a, b] w (StPost w (.bool true)) := by
  obtain ⟨m, hml⟩ : ∃ m, es.length = m := ⟨_, rfl⟩
  have H := Lib.hid (And.intro ha (And.intro hb (And.intro hm (And.intro hl hml))))
  obtain ⟨xa, xc, rfl⟩ := ha.form
  obtain ⟨ya, yc, rfl⟩ := hb.form
  clear ha hb hl hm
  rw [hml]
  clear hml
  go_enter Tryz.func12, Tryz.ntmps12
  go_wp2_with fail
  go_loopw [5] (fun s wr => ∃ k : Nat, s = .int .i64 k ∧ k ≤ m ∧ Still w wr) (fun s _ => m - (intOf s).toNat)
  case atStart => exact ⟨0, rfl, Nat.zero_le _, Still.refl _⟩
  case round =>
    obtain ⟨i, rfl, hk, hst⟩ := hrel
    by_cases hi : i < m
    · obtain ⟨e, he⟩ : ∃ e, es[i]? = some e := ⟨_, List.getElem?_eq_getElem (by have := H.out.2.2.2.2; omega)⟩
      have hmay := H.out.2.2.1 e (List.mem_of_getElem? he)
      obtain ⟨g, o, xo, xoc, xn, xnc, xm, xmc, xl, xlc, xd, xdc, xv, xvc, hxa, -, hxi, hxs⟩ := (H.out.1.still hst).at he
      obtain ⟨g2, o2, yo, yoc, yn, ync, ym, ymc, yl, ylc, yd, ydc, yv, yvc, hya, -, hyi, hys⟩ := (H.out.2.1.still hst).at he
      cases hxa
      cases hya
      have c0 : wr.cell? ⟨g, o + i * 16, none⟩ = some (.int .i64 e.kind) := hxs 0 _ (by decide) rfl
      have e0 : wr.cell? ⟨g2, o2 + i * 16, none⟩ = some (.int .i64 e.kind) := hys 0 _ (by decide) rfl
      have c1 : wr.cell? ⟨g, o + i * 16 + 1, none⟩ = some (.int .i64 e.txn) := by rw [Nat.add_assoc]; exact hxs 1 _ (by decide) rfl
      have e1 : wr.cell? ⟨g2, o2 + i * 16 + 1, none⟩ = some (.int .i64 e.txn) := by rw [Nat.add_assoc]; exact hys 1 _ (by decide) rfl
      have c2 : wr.cell? ⟨g, o + i * 16 + 2, none⟩ = some (.int .i64 e.unit) := by rw [Nat.add_assoc]; exact hxs 2 _ (by decide) rfl
      have e2 : wr.cell? ⟨g2, o2 + i * 16 + 2, none⟩ = some (.int .i64 e.unit) := by rw [Nat.add_assoc]; exact hys 2 _ (by decide) rfl
      have c3 : wr.cell? ⟨g, o + i * 16 + 3, none⟩ = some (.int .i64 e.half) := by rw [Nat.add_assoc]; exact hxs 3 _ (by decide) rfl
      have e3 : wr.cell? ⟨g2, o2 + i * 16 + 3, none⟩ = some (.int .i64 e.half) := by rw [Nat.add_assoc]; exact hys 3 _ (by decide) rfl
      have c4 : wr.cell? ⟨g, o + i * 16 + 4, none⟩ = some (.int .i64 e.prev) := by rw [Nat.add_assoc]; exact hxs 4 _ (by decide) rfl
      have e4 : wr.cell? ⟨g2, o2 + i * 16 + 4, none⟩ = some (.int .i64 e.prev) := by rw [Nat.add_assoc]; exact hys 4 _ (by decide) rfl
      have c5 : wr.cell? ⟨g, o + i * 16 + 5, none⟩ = some (.int .i64 e.next) := by rw [Nat.add_assoc]; exact hxs 5 _ (by decide) rfl
      have e5 : wr.cell? ⟨g2, o2 + i * 16 + 5, none⟩ = some (.int .i64 e.next) := by rw [Nat.add_assoc]; exact hys 5 _ (by decide) rfl
      have c6 : wr.cell? ⟨g, o + i * 16 + 6, none⟩ = some (.int .i64 e.ap) := by rw [Nat.add_assoc]; exact hxs 6 _ (by decide) rfl
      have e6 : wr.cell? ⟨g2, o2 + i * 16 + 6, none⟩ = some (.int .i64 e.ap) := by rw [Nat.add_assoc]; exact hys 6 _ (by decide) rfl
      have c7 : wr.cell? ⟨g, o + i * 16 + 7, none⟩ = some (.int .i64 e.ac) := by rw [Nat.add_assoc]; exact hxs 7 _ (by decide) rfl
      have e7 : wr.cell? ⟨g2, o2 + i * 16 + 7, none⟩ = some (.int .i64 e.ac) := by rw [Nat.add_assoc]; exact hys 7 _ (by decide) rfl
      have c8 : wr.cell? ⟨g, o + i * 16 + 8, none⟩ = some (.int .i64 e.tp) := by rw [Nat.add_assoc]; exact hxs 8 _ (by decide) rfl
      have e8 : wr.cell? ⟨g2, o2 + i * 16 + 8, none⟩ = some (.int .i64 e.tp) := by rw [Nat.add_assoc]; exact hys 8 _ (by decide) rfl
      have c9 : wr.cell? ⟨g, o + i * 16 + 9, none⟩ = some (.int .i64 e.tc) := by rw [Nat.add_assoc]; exact hxs 9 _ (by decide) rfl
      have e9 : wr.cell? ⟨g2, o2 + i * 16 + 9, none⟩ = some (.int .i64 e.tc) := by rw [Nat.add_assoc]; exact hys 9 _ (by decide) rfl
      have c10 : wr.cell? ⟨g, o + i * 16 + 10, none⟩ = some (.slice xo e.old.length xoc) := by rw [Nat.add_assoc]; exact hxs 10 _ (by decide) rfl
      have e10 : wr.cell? ⟨g2, o2 + i * 16 + 10, none⟩ = some (.slice yo e.old.length yoc) := by rw [Nat.add_assoc]; exact hys 10 _ (by decide) rfl
      have c11 : wr.cell? ⟨g, o + i * 16 + 11, none⟩ = some (.slice xn e.new.length xnc) := by rw [Nat.add_assoc]; exact hxs 11 _ (by decide) rfl
      have e11 : wr.cell? ⟨g2, o2 + i * 16 + 11, none⟩ = some (.slice yn e.new.length ync) := by rw [Nat.add_assoc]; exact hys 11 _ (by decide) rfl
      have c12 : wr.cell? ⟨g, o + i * 16 + 12, none⟩ = some (.slice xm e.moves.length xmc) := by rw [Nat.add_assoc]; exact hxs 12 _ (by decide) rfl
      have e12 : wr.cell? ⟨g2, o2 + i * 16 + 12, none⟩ = some (.slice ym e.moves.length ymc) := by rw [Nat.add_assoc]; exact hys 12 _ (by decide) rfl
      have c13 : wr.cell? ⟨g, o + i * 16 + 13, none⟩ = some (.slice xl e.lives.length xlc) := by rw [Nat.add_assoc]; exact hxs 13 _ (by decide) rfl
      have e13 : wr.cell? ⟨g2, o2 + i * 16 + 13, none⟩ = some (.slice yl e.lives.length ylc) := by rw [Nat.add_assoc]; exact hys 13 _ (by decide) rfl
      have c14 : wr.cell? ⟨g, o + i * 16 + 14, none⟩ = some (.slice xd e.dirty.length xdc) := by rw [Nat.add_assoc]; exact hxs 14 _ (by decide) rfl
      have e14 : wr.cell? ⟨g2, o2 + i * 16 + 14, none⟩ = some (.slice yd e.dirty.length ydc) := by rw [Nat.add_assoc]; exact hys 14 _ (by decide) rfl
      have c15 : wr.cell? ⟨g, o + i * 16 + 15, none⟩ = some (.slice xv e.opens.length xvc) := by rw [Nat.add_assoc]; exact hxs 15 _ (by decide) rfl
      have e15 : wr.cell? ⟨g2, o2 + i * 16 + 15, none⟩ = some (.slice yv e.opens.length yvc) := by rw [Nat.add_assoc]; exact hys 15 _ (by decide) rfl
      have b1 : decide ((i : Int) < (m : Int)) = true := by simp; omega
      have b2 : decide (i < m) = true := by simp; omega
      have b3 : (0 : Int) ≤ (i : Int) := by omega
      have b4 : (i : Int) < (m : Int) := by omega
      have u9 : IntKind.i64.wrap ((i : Int) + 1) = (i : Int) + 1 := IntWalk.i64_in _ (by have := H.out.2.2.2; omega)
      have HSE := Lib.hid (fun w' (hs' : Still wr w') => same_entry (w := w') xo xn xm xl xd xv yo yn ym yl yd yv xoc xnc xmc xlc xdc xvc yoc ync ymc ylc ydc yvc hmay (hxi.still hs') (hyi.still hs'))
      have HT := Lib.hid hst
      have SSR := Lib.hid (fun w' (hs : Still wr w') => show w'.cell? ⟨g, o + i * 16, none⟩ = some (.int .i64 e.kind) ∧ w'.cell? ⟨g2, o2 + i * 16, none⟩ = some (.int .i64 e.kind) ∧ w'.cell? ⟨g, o + i * 16 + 1, none⟩ = some (.int .i64 e.txn) ∧ w'.cell? ⟨g2, o2 + i * 16 + 1, none⟩ = some (.int .i64 e.txn) ∧ w'.cell? ⟨g, o + i * 16 + 2, none⟩ = some (.int .i64 e.unit) ∧ w'.cell? ⟨g2, o2 + i * 16 + 2, none⟩ = some (.int .i64 e.unit) ∧ w'.cell? ⟨g, o + i * 16 + 3, none⟩ = some (.int .i64 e.half) ∧ w'.cell? ⟨g2, o2 + i * 16 + 3, none⟩ = some (.int .i64 e.half) ∧ w'.cell? ⟨g, o + i * 16 + 4, none⟩ = some (.int .i64 e.prev) ∧ w'.cell? ⟨g2, o2 + i * 16 + 4, none⟩ = some (.int .i64 e.prev) ∧ w'.cell? ⟨g, o + i * 16 + 5, none⟩ = some (.int .i64 e.next) ∧ w'.cell? ⟨g2, o2 + i * 16 + 5, none⟩ = some (.int .i64 e.next) ∧ w'.cell? ⟨g, o + i * 16 + 6, none⟩ = some (.int .i64 e.ap) ∧ w'.cell? ⟨g2, o2 + i * 16 + 6, none⟩ = some (.int .i64 e.ap) ∧ w'.cell? ⟨g, o + i * 16 + 7, none⟩ = some (.int .i64 e.ac) ∧ w'.cell? ⟨g2, o2 + i * 16 + 7, none⟩ = some (.int .i64 e.ac) ∧ w'.cell? ⟨g, o + i * 16 + 8, none⟩ = some (.int .i64 e.tp) ∧ w'.cell? ⟨g2, o2 + i * 16 + 8, none⟩ = some (.int .i64 e.tp) ∧ w'.cell? ⟨g, o + i * 16 + 9, none⟩ = some (.int .i64 e.tc) ∧ w'.cell? ⟨g2, o2 + i * 16 + 9, none⟩ = some (.int .i64 e.tc) ∧ w'.cell? ⟨g, o + i * 16 + 10, none⟩ = some (.slice xo e.old.length xoc) ∧ w'.cell? ⟨g2, o2 + i * 16 + 10, none⟩ = some (.slice yo e.old.length yoc) ∧ w'.cell? ⟨g, o + i * 16 + 11, none⟩ = some (.slice xn e.new.length xnc) ∧ w'.cell? ⟨g2, o2 + i * 16 + 11, none⟩ = some (.slice yn e.new.length ync) ∧ w'.cell? ⟨g, o + i * 16 + 12, none⟩ = some (.slice xm e.moves.length xmc) ∧ w'.cell? ⟨g2, o2 + i * 16 + 12, none⟩ = some (.slice ym e.moves.length ymc) ∧ w'.cell? ⟨g, o + i * 16 + 13, none⟩ = some (.slice xl e.lives.length xlc) ∧ w'.cell? ⟨g2, o2 + i * 16 + 13, none⟩ = some (.slice yl e.lives.length ylc) ∧ w'.cell? ⟨g, o + i * 16 + 14, none⟩ = some (.slice xd e.dirty.length xdc) ∧ w'.cell? ⟨g2, o2 + i * 16 + 14, none⟩ = some (.slice yd e.dirty.length ydc) ∧ w'.cell? ⟨g, o + i * 16 + 15, none⟩ = some (.slice xv e.opens.length xvc) ∧ w'.cell? ⟨g2, o2 + i * 16 + 15, none⟩ = some (.slice yv e.opens.length yvc) from ⟨Still.cell hs c0, Still.cell hs e0, Still.cell hs c1, Still.cell hs e1, Still.cell hs c2, Still.cell hs e2, Still.cell hs c3, Still.cell hs e3, Still.cell hs c4, Still.cell hs e4, Still.cell hs c5, Still.cell hs e5, Still.cell hs c6, Still.cell hs e6, Still.cell hs c7, Still.cell hs e7, Still.cell hs c8, Still.cell hs e8, Still.cell hs c9, Still.cell hs e9, Still.cell hs c10, Still.cell hs e10, Still.cell hs c11, Still.cell hs e11, Still.cell hs c12, Still.cell hs e12, Still.cell hs c13, Still.cell hs e13, Still.cell hs c14, Still.cell hs e14, Still.cell hs c15, Still.cell hs e15⟩)
      clear hxs hys hxi hyi hst hmay he
      go_wp2_with fail
      go_region_held3 (fun w' => w'.cell? ⟨g, o + i * 16, none⟩ = some (.int .i64 e.kind) ∧ w'.cell? ⟨g2, o2 + i * 16, none⟩ = some (.int .i64 e.kind) ∧ w'.cell? ⟨g, o + i * 16 + 1, none⟩ = some (.int .i64 e.txn) ∧ w'.cell? ⟨g2, o2 + i * 16 + 1, none⟩ = some (.int .i64 e.txn) ∧ w'.cell? ⟨g, o + i * 16 + 2, none⟩ = some (.int .i64 e.unit) ∧ w'.cell? ⟨g2, o2 + i * 16 + 2, none⟩ = some (.int .i64 e.unit) ∧ w'.cell? ⟨g, o + i * 16 + 3, none⟩ = some (.int .i64 e.half) ∧ w'.cell? ⟨g2, o2 + i * 16 + 3, none⟩ = some (.int .i64 e.half) ∧ w'.cell? ⟨g, o + i * 16 + 4, none⟩ = some (.int .i64 e.prev) ∧ w'.cell? ⟨g2, o2 + i * 16 + 4, none⟩ = some (.int .i64 e.prev) ∧ w'.cell? ⟨g, o + i * 16 + 5, none⟩ = some (.int .i64 e.next) ∧ w'.cell? ⟨g2, o2 + i * 16 + 5, none⟩ = some (.int .i64 e.next) ∧ w'.cell? ⟨g, o + i * 16 + 6, none⟩ = some (.int .i64 e.ap) ∧ w'.cell? ⟨g2, o2 + i * 16 + 6, none⟩ = some (.int .i64 e.ap) ∧ w'.cell? ⟨g, o + i * 16 + 7, none⟩ = some (.int .i64 e.ac) ∧ w'.cell? ⟨g2, o2 + i * 16 + 7, none⟩ = some (.int .i64 e.ac) ∧ w'.cell? ⟨g, o + i * 16 + 8, none⟩ = some (.int .i64 e.tp) ∧ w'.cell? ⟨g2, o2 + i * 16 + 8, none⟩ = some (.int .i64 e.tp) ∧ w'.cell? ⟨g, o + i * 16 + 9, none⟩ = some (.int .i64 e.tc) ∧ w'.cell? ⟨g2, o2 + i * 16 + 9, none⟩ = some (.int .i64 e.tc) ∧ w'.cell? ⟨g, o + i * 16 + 10, none⟩ = some (.slice xo e.old.length xoc) ∧ w'.cell? ⟨g2, o2 + i * 16 + 10, none⟩ = some (.slice yo e.old.length yoc) ∧ w'.cell? ⟨g, o + i * 16 + 11, none⟩ = some (.slice xn e.new.length xnc) ∧ w'.cell? ⟨g2, o2 + i * 16 + 11, none⟩ = some (.slice yn e.new.length ync) ∧ w'.cell? ⟨g, o + i * 16 + 12, none⟩ = some (.slice xm e.moves.length xmc) ∧ w'.cell? ⟨g2, o2 + i * 16 + 12, none⟩ = some (.slice ym e.moves.length ymc) ∧ w'.cell? ⟨g, o + i * 16 + 13, none⟩ = some (.slice xl e.lives.length xlc) ∧ w'.cell? ⟨g2, o2 + i * 16 + 13, none⟩ = some (.slice yl e.lives.length ylc) ∧ w'.cell? ⟨g, o + i * 16 + 14, none⟩ = some (.slice xd e.dirty.length xdc) ∧ w'.cell? ⟨g2, o2 + i * 16 + 14, none⟩ = some (.slice yd e.dirty.length ydc) ∧ w'.cell? ⟨g, o + i * 16 + 15, none⟩ = some (.slice xv e.opens.length xvc) ∧ w'.cell? ⟨g2, o2 + i * 16 + 15, none⟩ = some (.slice yv e.opens.length yvc)) (first | exact SSR.out _ (Still.refl _) | exact SSR.out _ (still_drew wr) | exact SSR.out _ ((still_drew wr).trans (by assumption))) (first | (go_at_call 41; (with_reducible refine (HSE.out _ (still_drew wr)).mono ?_); rintro en w2 ⟨rfl, hs2⟩))
      have HS2 := Lib.hid (HT.out.trans ((still_drew wr).trans hs2))
      clear hs2
      go_wp2_with fail
      go_roundw
      case rel => exact ⟨i + 1, by go_num, by omega, HS2.out⟩
      case measure => simp [intOf]; omega
    · have hke : i = m := by omega
      subst hke
      have b1 : decide ((i : Int) < (i : Int)) = false := by simp
      have F := Lib.hid (show StPost w (.bool true) (.returned (.bool true)) wr from ⟨rfl, hst⟩)
      clear hst
      go_wp2_with fail
      go_ret
      exact F.out
end Go.Proofs.YtojkggppcmdepaaGreat
