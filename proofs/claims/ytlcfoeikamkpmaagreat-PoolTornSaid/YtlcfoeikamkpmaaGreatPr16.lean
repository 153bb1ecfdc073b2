/- A crash of a disk. Conditions: it lies in memory. A disk that may be dead, or armed: may, cut, write. Conditions: it lies in memory; at most two thousand tiles. A disk that may be dead, or armed: write. Conditions: it lies in memory; at most two thousand tiles; the tile is there. A disk that may be dead, or armed: sync, arm, power, dead, read, tiles. Conditions: it lies in memory; at most two thousand tiles. -/
import Derived.Test.YtlcfoeikamkpmaaGreatPr15
namespace Go.Proofs.YtlcfoeikamkpmaaGreat
open Go.RowKit Go.Wh Go.Maps

def DgX (A : Nat → Prop) (d : Nat) (D : PDk) (w : World) : Prop := ∃ tv mb vs V pp, DgAt A w d D tv mb vs V pp
theorem DgX.only {A X : Nat → Prop} {d : Nat} {D : PDk} {w w' : World} (h : DgX A d D w) (ho : Only X w w') (hx : ∀ g, A g → ¬ X g) : DgX A d D w' := by
 obtain ⟨tv, mb, vs, V, pp, h⟩ := h
 exact ⟨tv, mb, vs, V, pp, h.only ho hx⟩
theorem DgX.still {A : Nat → Prop} {d : Nat} {D : PDk} {w w' : World} (h : DgX A d D w) (hs : Still w w') : DgX A d D w' := h.only hs fun _ _ e => e
theorem DgAt.crashed {A : Nat → Prop} {w w1 : World} {d mb : Nat} {D : PDk} {tv : Value} {vs : List Value} {V : Int → Option Value} {pp : Option Nat} (h : DgAt A w d D tv mb vs V pp) (hk : kmap w1 Tryz.prog 3 (fun z : Int => .int .i64 z) mb (fun _ => none)) (ho : Only (fun b => b = mb) w w1) :
 DgAt A ((w1.setCell ⟨d, 2, none⟩ (.bool true)).setCell ⟨d, 3, none⟩ (.pointer none)) d ⟨D.T, fun _ => none, true, none⟩ tv mb vs (fun _ => none) none := by
 have o1 := setCell_only w1 ⟨d, 2, none⟩ (.bool true)
 have o2 := setCell_only (w1.setCell ⟨d, 2, none⟩ (.bool true)) ⟨d, 3, none⟩ (.pointer none)
 have o3 : Only (fun b => b = d) w1 ((w1.setCell ⟨d, 2, none⟩ (.bool true)).setCell ⟨d, 3, none⟩ (.pointer none)) := o1.trans o2
 have oo : Only (fun b => b = d ∨ b = mb) w ((w1.setCell ⟨d, 2, none⟩ (.bool true)).setCell ⟨d, 3, none⟩ (.pointer none)) := (ho.mono fun b e => .inr e).trans (o3.mono fun b e => .inl e)
 have hc := h.cells.only ho h.dm
 have hmu : ∀ g, Mu d mb tv none g → Mu d mb tv pp g := fun g hg => by
  rcases hg with e | e | e | e
  · exact .inl e
  · exact .inr (.inl e)
  · exact .inr (.inr (.inl e))
  · cases e
 exact {
  cells := by
   have := (hc.setCell 2 (.bool true)).setCell 3 (.pointer none)
   exact this
  t := h.t.only oo fun g hg e => e.elim (h.td g hg).1 (h.td g hg).2
  ins := fun i l hi => by
   obtain ⟨v, hv, hr⟩ := h.ins i l hi
   exact ⟨v, hv, Reads.only hr oo fun g hg e => ((h.ct v (List.mem_of_getElem? hv)).2 g hg).2 (e.elim .inl fun e => .inr (.inl e))⟩
  m := hk.block (o3.block mb hk.lt fun e => h.dm (show mb = d from e).symm)
  wi := fun x v hv => by cases hv
  wn := fun i _ => rfl
  pl := fun k mask hp => by cases hp
  pn := fun _ => rfl
  dm := h.dm
  td := h.td
  pd := fun g hg => by cases hg
  mu := fun g hg => h.mu g (hmu g hg)
  ct := fun v hv => ⟨(h.ct v hv).1, fun g hg => ⟨((h.ct v hv).2 g hg).1, fun e => ((h.ct v hv).2 g hg).2 (hmu g e)⟩⟩
  cw := fun x v hv => by cases hv
  lt := fun g hg => by have := h.lt g hg; have := oo.size; omega }

structure CrRel (A : Nat → Prop) (w1 : World) (d : Nat) (D : PDk) (mask : List Int) (tv : Value) (mb : Nat) (V : Int → Option Value) (pp : Option Nat) (i : Nat) (wr : World) : Prop where
 ex : ∃ vs, DgAt A wr d { D with T := crashN D.was mask D.loose D.T i } tv mb vs V pp
 ho : Only (fun b => tv.ownBlock = some b) w1 wr
set_option maxHeartbeats 4000000 in
set_option maxRecDepth 100000 in
theorem crash_at {A Q : Nat → Prop} {w : World} {d mb m : Nat} {D : PDk} {tv : Value} {vs : List Value} {V : Int → Option Value} {pp : Option Nat} (h : DgAt A w d D tv mb vs V pp) (hT : D.T.length ≤ 2000) (ma : Option Addr) (mc : Nat) (mask : List Int)
 (hm : 0 < m → Sl w Q 1 (.slice ma m mc) m (bc mask)) (hq : ∀ g, Q g → ¬ tv.ownBlock = some g) (hl : mask.length = m) (hb : Byt mask) :
 Calls Tryz.prog 29 #[.pointer (some ⟨d, 0, none⟩), .slice ma m mc] w (fun e w' => e = .returned (.tuple #[]) ∧ (∃ vs', DgAt A w' d (D.crash mask) tv mb vs' (fun _ => none) none) ∧ Only (fun b => b = d ∨ b = mb ∨ tv.ownBlock = some b) w w') := by
 have c1 : w.cell? ⟨d, 1, none⟩ = some (.map (some mb)) := h.cells.cell 1
 have HLO := Lib.hid (loose_any w d mb D.T.length V c1 h.m (by omega) h.inr)
 have hlo : looseL (fun i => (V (i : Int)).isSome) D.T.length = D.loose := by
  unfold PDk.loose
  congr 1
  exact funext fun i => h.was i
 rw [hlo] at HLO
 have H := Lib.hid (And.intro h (And.intro hm (And.intro hq (And.intro hl (And.intro hb hT)))))
 have HLN := Lib.hid (show D.loose.length ≤ 2000 from by
  unfold PDk.loose looseL
  have := List.length_filter_le (fun i => (D.was i).isSome) (List.range D.T.length)
  rw [List.length_range] at this
  omega)
 obtain ⟨ta, tc, htv⟩ := h.form
 clear h hm hq hl hb hlo c1
 go_enter Tryz.func29, Tryz.ntmps29
 go_wp2_with fail
 refine HLO.out.mono ?_
 intro e w1 hp
 obtain ⟨v, rfl, hv, hs1, hv1⟩ := hp
 obtain ⟨n, hn⟩ : ∃ n, D.loose.length = n := ⟨_, rfl⟩
 rw [hn] at hv
 obtain ⟨va, vc, rfl⟩ := hv.form'
 have HV := Lib.hid (And.intro hv (And.intro hs1 (And.intro hv1 hn)))
 have HREL := Lib.hid (show CrRel A w1 d D mask tv mb V pp 0 w1 from ⟨⟨vs, H.out.1.still hs1⟩, Only.refl _ _⟩)
 clear hv hs1 hv1 HLO hn
 go_wp2_with fail
 go_loopw [11] (fun s wr => ∃ i : Nat, s = .int .i64 i ∧ i ≤ n ∧ CrRel A w1 d D mask tv mb V pp i wr) (fun s _ => n - (intOf s).toNat)
 case atStart => exact ⟨0, rfl, Nat.zero_le _, HREL.out⟩
 case round =>
  clear HREL
  obtain ⟨i, rfl, hin, ⟨⟨us, hd⟩, ho⟩⟩ := hrel
  have hn2000 : n ≤ 2000 := by have := HLN.out; have := HV.out.2.2.2; omega
  have u1 : IntKind.i64.wrap ((i : Int) + 1) = (i : Int) + 1 := IntWalk.i64_in _ (by omega)
  by_cases hi : i < n
  · have d1 : decide ((i : Int) < (n : Int)) = true := decide_eq_true (by omega)
    have d2 : decide (i < n) = true := decide_eq_true hi
    have l0 : (0 : Int) ≤ (i : Int) := by omega
    have l1 : (i : Int) < (n : Int) := by omega
    obtain ⟨x, hx⟩ : ∃ x, D.loose[i]? = some x := ⟨_, List.getElem?_eq_getElem (by rw [HV.out.2.2.2]; exact hi)⟩
    have hxm := looseL_mem.1 (List.mem_of_getElem? hx)
    obtain ⟨g, o, c, hvs, hva⟩ := HV.out.1.form (by omega)
    cases hvs
    have hgo : ¬ tv.ownBlock = some g := fun e => by
     have e1 := H.out.1.lt g (H.out.1.mu g (.inr (.inr (.inl e))))
     have e2 := (HV.out.2.2.1 g rfl).1
     omega
    have cx : wr.cell? ⟨g, o + i, none⟩ = some (.int .i64 (x : Int)) := by
     refine (ho.cell (p := ⟨g, o + i, none⟩) (HV.out.2.2.1 g rfl).2 hgo).trans ?_
     rw [hva.cells i (by omega), List.getElem?_map, hx]
     rfl
    have hxl : x < D.T.length := hxm.1
    have HB := Lib.hid (set_any wr Q ma m mc i mask (fun hp => ((H.out.2.1 hp).still HV.out.2.1).only ho H.out.2.2.1) H.out.2.2.2.1 H.out.2.2.2.2.1 (by omega))
    have HX := Lib.hid (And.intro hd (And.intro ho (And.intro hx (And.intro hxm hi))))
    have hgd : D.loose.getD i 0 = x := by rw [List.getD_eq_getElem?_getD, hx]; rfl
    have HGD := Lib.hid hgd
    cases hbit : mskB mask i with
    | true =>
     rw [hbit] at HB
     have HNX := Lib.hid (show CrRel A w1 d D mask tv mb V pp (i + 1) wr from ⟨⟨us, by
      unfold crashN
      rw [if_pos hbit]
      exact hd⟩, ho⟩)
     clear hd ho hx hxm hi hva hgo hbit hgd hin hxl
     go_wp2_with fail
     refine HB.out.mono ?_
     rintro e w2 ⟨rfl, rfl⟩
     go_wp2_with fail
     go_roundw
     case rel => exact ⟨i + 1, by go_num, by have := HX.out.2.2.2.2; omega, HNX.out⟩
     case measure => simp [intOf]; have := HX.out.2.2.2.2; omega
    | false =>
     rw [hbit] at HB
     have hbf : ¬ mskB mask i = true := by rw [hbit]; decide
     obtain ⟨l, hwas⟩ := Option.isSome_iff_exists.1 hxm.2
     have hVs := hd.was x
     rw [hwas] at hVs
     obtain ⟨u, hu⟩ := Option.isSome_iff_exists.1 hVs
     obtain ⟨x2, l2, -, hx2, hw2, hru⟩ := hd.wi _ _ hu
     obtain rfl : x = x2 := by omega
     obtain ⟨ua, uc, rfl⟩ := Reads.form hru
     rw [hwas] at hw2
     injection hw2 with hw2
     subst hw2
     have hlen : (crashN D.was mask D.loose D.T i).length = D.T.length := crashN_length
     have hxl2 : x < (crashN D.was mask D.loose D.T i).length := by rw [hlen]; exact hxl
     obtain ⟨tg, tf, tcc, htv2, htt⟩ := hd.t.form (by show 0 < (crashN D.was mask D.loose D.T i).length; omega)
     have htv3 : tv = .slice (some ⟨tg, tf, none⟩) (crashN D.was mask D.loose D.T i).length tcc := htv2
     have hput := (hd.still (still_drew wr)).put htv3 hxl2 (Reads.still hru (still_drew wr)) (hd.cw _ _ hu).2 (hd.cw _ _ hu).1
     have HNX := Lib.hid (show CrRel A w1 d D mask tv mb V pp (i + 1) (wr.drew.setCell ⟨tg, tf + x, none⟩ (.slice ua 64 uc)) from ⟨⟨_, by
      have e : crashN D.was mask D.loose D.T (i + 1) = (crashN D.was mask D.loose D.T i).set x l := by
       show (if mskB mask i = true then _ else _) = _
       rw [if_neg hbf, hgd, hwas]
       rfl
      rw [e]
      exact hput⟩, ho.drew.setCell (p := ⟨tg, tf + x, none⟩) (.inl (by rw [htv3]; rfl)) _⟩)
     rw [hlen] at htv3
     have c0 : wr.cell? ⟨d, 0, none⟩ = some tv := hd.cells.cell 0
     rw [htv3] at c0
     have c1 : wr.cell? ⟨d, 1, none⟩ = some (.map (some mb)) := hd.cells.cell 1
     have hlk : (Instr.lookup 80 (.map (some mb)) (.int .i64 (x : Int)) false).run Tryz.prog wr = .ok (.slice ua 64 uc) wr := by
      have := hd.m.lookup (int_keyed Tryz.underlying3) Tryz.underlying80 (intK x (by have := H.out.2.2.2.2.2; omega)) (z := .slice none 0 0) (by kernel_rfl) false
      rw [hu] at this
      exact this
     have hlk2 : (Instr.lookup 80 (.map (some mb)) (.int .i64 (x : Int)) false).run Tryz.prog wr.drew = .ok (.slice ua 64 uc) wr.drew := by
      have := (hd.m.block rfl : kmap wr.drew _ _ _ _ _).lookup (int_keyed Tryz.underlying3) Tryz.underlying80 (intK x (by have := H.out.2.2.2.2.2; omega)) (z := .slice none 0 0) (by kernel_rfl) false
      rw [hu] at this
      exact this
     have ft : wr.frozen? ⟨tg, tf + x, none⟩ = false := htt.free x (by show x < (crashN D.was mask D.loose D.T i).length * 1; omega)
     have ct : ∃ u', wr.cell? ⟨tg, tf + x, none⟩ = some u' := by
      refine ⟨_, (htt.cells x (by show x < (crashN D.was mask D.loose D.T i).length * 1; omega)).trans (List.getElem?_eq_getElem (by have := htt.len; have e : us.length = (crashN D.was mask D.loose D.T i).length * 1 := this; omega))⟩
     obtain ⟨u', ct⟩ := ct
     have k0 : (0 : Int) ≤ (x : Int) := by omega
     have k1 : (x : Int) < (D.T.length : Int) := by omega
     obtain ⟨Tn, hTn⟩ : ∃ Tn, D.T.length = Tn := ⟨_, rfl⟩
     rw [hTn] at c0 k1
     clear hd ho hx hxm hi hva hgo hbit hgd hin hxl hbf hwas hVs hu hx2 hru hlen hxl2 htv2 htt htv3 hput hTn
     go_wp2_with fail
     refine HB.out.mono ?_
     rintro e w2 ⟨rfl, rfl⟩
     go_wp2_with fail
     go_still_tail 12, (by kernel_rfl)
     change wpList _ _ _ _ _ w2.drew
     go_wp2_with fail
     go_roundw
     case rel => exact ⟨i + 1, by go_num, by have := HX.out.2.2.2.2; omega, HNX.out⟩
     case measure => simp [intOf]; have := HX.out.2.2.2.2; omega
  · have d1 : decide ((i : Int) < (n : Int)) = false := decide_eq_false (by omega)
    have d2 : decide (i < n) = false := decide_eq_false hi
    have hie : i = n := by omega
    have c1 : wr.cell? ⟨d, 1, none⟩ = some (.map (some mb)) := hd.cells.cell 1
    obtain ⟨w3, hrun, hk3, hg3, hs3⟩ := kmap.clear (ty := 0) hd.m Tryz.underlying80
    have ho3 : Only (fun b => b = mb) wr w3 := Only.grown hg3 fun j e => (Option.some.inj e).symm
    have hcl := hd.cells.only ho3 hd.dm
    have hcr := hd.crashed hk3 ho3
    have x2 : w3.cell? ⟨d, 2, none⟩ = some (.bool D.dead) := hcl.cell 2
    have x3 : w3.cell? ⟨d, 3, none⟩ = some (ptrV pp) := hcl.cell 3
    have y2 : w3.frozen? ⟨d, 2, none⟩ = false := hcl.free 2
    have y3 : w3.frozen? ⟨d, 3, none⟩ = false := hcl.free 3
    have F := Lib.hid (show (Ending.returned (.tuple #[])) = .returned (.tuple #[]) ∧ (∃ vs', DgAt A ((w3.setCell ⟨d, 2, none⟩ (.bool true)).setCell ⟨d, 3, none⟩ (.pointer none)) d (D.crash mask) tv mb vs' (fun _ => none) none) ∧ Only (fun b => b = d ∨ b = mb ∨ tv.ownBlock = some b) w ((w3.setCell ⟨d, 2, none⟩ (.bool true)).setCell ⟨d, 3, none⟩ (.pointer none)) from ⟨rfl, ⟨us, by
     have e : D.crash mask = ⟨crashN D.was mask D.loose D.T i, fun _ => none, true, none⟩ := by
      unfold PDk.crash
      rw [HV.out.2.2.2, hie]
     rw [e]
     exact hcr⟩, by
     have q1 : Only (fun b => b = d ∨ b = mb ∨ tv.ownBlock = some b) w wr := (HV.out.2.1.mono fun _ e => e.elim).trans (ho.mono fun b e => .inr (.inr e))
     have q2 := q1.trans (ho3.mono fun b e => .inr (.inl e))
     exact (q2.setCell (p := ⟨d, 2, none⟩) (.inl (.inl rfl)) _).setCell (p := ⟨d, 3, none⟩) (.inl (.inl rfl)) _⟩)
    clear hd ho hin hi hie hk3 hg3 hs3 ho3 hcl hcr
    go_wp2_with fail
    go_end0
    subst htv
    exact ⟨rfl, F.out.2⟩
end Go.Proofs.YtlcfoeikamkpmaaGreat

namespace Go.Proofs.YtlcfoeikamkpmaaGreat
open Go.RowKit Go.Wh Go.Maps

def PDk.cuts (D : PDk) : Bool := match D.plan with
 | none => false
 | some (k, _) => decide (k - 1 < 0)
def PDk.less (D : PDk) : PDk := { D with plan := D.plan.map fun p => (p.1 - 1, p.2) }
def PDk.fine (D : PDk) : Prop := ∀ k mask, D.plan = some (k, mask) → 0 ≤ k ∧ k ≤ 1000000
def PDk.done (D : PDk) : Int × PDk := match D.plan with
 | none => (0, D)
 | some (k, mask) => if k - 1 < 0 then (2, D.crash mask) else (0, D.less)
def PDk.wet (D : PDk) (i : Nat) : PDk := { D with was := if (D.was i).isSome = true then D.was else upd D.was i D.T[i]? }
def PDk.laid (D : PDk) (i : Nat) (l : List Int) : PDk := { D.wet i with T := D.T.set i l }
section
variable {A X : Nat → Prop} {w w' : World} {d mb : Nat} {D : PDk} {tv : Value} {vs : List Value} {V : Int → Option Value} {pp : Option Nat}
theorem DgAt.tick {b : Nat} {k : Int} {mask : List Int} (h : DgAt A w d D tv mb vs V pp) (hp : D.plan = some (k, mask)) (hb : pp = some b) : DgAt A (w.setCell ⟨b, 0, none⟩ (.int .i64 (k - 1))) d D.less tv mb vs V pp := by
 have ho := setCell_only w ⟨b, 0, none⟩ (.int .i64 (k - 1))
 have hz : (w.setCell ⟨b, 0, none⟩ (.int .i64 (k - 1))).heap.size = w.heap.size := by simp [World.setCell]
 have hmu : ∀ g, ¬ Mu d mb tv pp g → ¬ g = b := fun g hn e => hn (.inr (.inr (.inr (by rw [hb, e]))))
 have hpd := h.pd b hb
 exact {
  cells := h.cells.only ho fun e => hpd.1 (show d = b from e).symm
  t := h.t.only ho fun g hg e => hpd.2.2 (by rw [← show g = b from e]; exact hg)
  ins := fun i l hi => by
   obtain ⟨v, hv, hr⟩ := h.ins i l hi
   exact ⟨v, hv, Reads.only hr ho fun g hg => hmu g ((h.ct v (List.mem_of_getElem? hv)).2 g hg).2⟩
  m := h.m.block (ho.block mb h.m.lt fun e => hpd.2.1 (show mb = b from e).symm)
  wi := fun x v hv => by
   obtain ⟨i, l, k1, k2, k3, k4⟩ := h.wi x v hv
   exact ⟨i, l, k1, k2, k3, Reads.only k4 ho fun g hg => hmu g ((h.cw x v hv).2 g hg).2⟩
  wn := h.wn
  pl := fun k' mask' hp' => by
   obtain ⟨b', mv, k1, k2, k3, k4⟩ := h.pl k mask hp
   have e : D.less.plan = some (k - 1, mask) := by unfold PDk.less; rw [hp]; rfl
   rw [e] at hp'
   injection hp' with hp'
   injection hp' with e1 e2
   subst e1 e2
   have hbb : b' = b := by rw [hb] at k1; exact (Option.some.inj k1).symm
   subst hbb
   refine ⟨b', mv, k1, ?_, k3.only ho fun g hg => hmu g hg.2, k4⟩
   have := k2.setCell 0 (.int .i64 (k - 1))
   exact this
  pn := fun hn => by
   have e : D.less.plan = some (k - 1, mask) := by unfold PDk.less; rw [hp]; rfl
   rw [e] at hn
   cases hn
  dm := h.dm
  td := h.td
  pd := h.pd
  mu := h.mu
  ct := h.ct
  cw := h.cw
  lt := fun g hg => by rw [hz]; exact h.lt g hg }
set_option maxRecDepth 10000 in
theorem cut_at (h : DgAt A w d D tv mb vs V pp) (hf : D.fine) :
 Calls Tryz.prog 41 #[.pointer (some ⟨d, 0, none⟩)] w (fun e w' => e = .returned (.bool D.cuts) ∧ DgAt A w' d D.less tv mb vs V pp ∧ Only (fun g => pp = some g) w w') := by
 have c3 : w.cell? ⟨d, 3, none⟩ = some (ptrV pp) := h.cells.cell 3
 cases hp : D.plan with
 | none =>
  have hpp := h.pn hp
  subst hpp
  have c3' : w.cell? ⟨d, 3, none⟩ = some (.pointer none) := c3
  have e1 : D.cuts = false := by unfold PDk.cuts; rw [hp]
  have e2 : D.less = D := by unfold PDk.less; rw [hp]; cases D; cases hp; rfl
  rw [e1, e2]
  have F := Lib.hid (show (Ending.returned (.bool false)) = .returned (.bool false) ∧ DgAt A w d D tv mb vs V none ∧ Only (fun g => (none : Option Nat) = some g) w w from ⟨rfl, h, Only.refl _ _⟩)
  clear h hf c3 hp e1 e2
  go_enter Tryz.func41, Tryz.ntmps41
  go_wp2_with fail
  go_ret
  exact ⟨rfl, F.out.2.1, Only.refl _ _⟩
 | some p =>
  obtain ⟨k, mask⟩ := p
  obtain ⟨b, mv, hb, hc, -, -⟩ := h.pl k mask hp
  have hk := hf k mask hp
  have htick := h.tick hp hb
  subst hb
  have c3' : w.cell? ⟨d, 3, none⟩ = some (.pointer (some ⟨b, 0, none⟩)) := c3
  have c0 : w.cell? ⟨b, 0, none⟩ = some (.int .i64 k) := hc.cell 0
  have f0 : w.frozen? ⟨b, 0, none⟩ = false := hc.free 0
  have hdb : d ≠ b := (h.pd b rfl).1.symm
  have c3'' : (w.setCell ⟨b, 0, none⟩ (.int .i64 (k - 1))).cell? ⟨d, 3, none⟩ = some (.pointer (some ⟨b, 0, none⟩)) := by
   have := (setCell_only w ⟨b, 0, none⟩ (.int .i64 (k - 1))).cell (p := ⟨d, 3, none⟩) h.cells.lt hdb
   rw [this]
   exact c3'
  have c0'' : (w.setCell ⟨b, 0, none⟩ (.int .i64 (k - 1))).cell? ⟨b, 0, none⟩ = some (.int .i64 (k - 1)) := (hc.setCell 0 (.int .i64 (k - 1))).cell 0
  have u1 : IntKind.i64.wrap (k - 1) = k - 1 := IntWalk.i64_in _ (by omega)
  have e1 : D.cuts = decide (k - 1 < 0) := by unfold PDk.cuts; rw [hp]
  rw [e1]
  have F := Lib.hid (show DgAt A (w.setCell ⟨b, 0, none⟩ (.int .i64 (k - 1))) d D.less tv mb vs V (some b) ∧ Only (fun g => (some b : Option Nat) = some g) w (w.setCell ⟨b, 0, none⟩ (.int .i64 (k - 1))) from ⟨htick, (setCell_only w ⟨b, 0, none⟩ _).mono fun g e => by rw [show g = b from e]⟩)
  obtain ⟨q, hq⟩ : ∃ q, decide (k - 1 < 0) = q := ⟨_, rfl⟩
  rw [hq]
  clear h hf c3 hp e1 hk htick hc
  go_enter Tryz.func41, Tryz.ntmps41
  go_wp2_with fail
  go_ret
  exact ⟨rfl, F.out⟩
theorem DgAt.keep {i : Nat} {v : Value} {l : List Int} (h : DgAt A w d D tv mb vs V pp) (hi : D.T[i]? = some l) (hv : vs[i]? = some v) (hw : V (i : Int) = none) (hk : kmap w' Tryz.prog 3 (fun z : Int => .int .i64 z) mb (upd V (i : Int) (some v))) (ho : Only (fun b => b = mb) w w') :
 DgAt A w' d (D.wet i) tv mb vs (upd V (i : Int) (some v)) pp := by
 have hmu : ∀ g, ¬ Mu d mb tv pp g → ¬ g = mb := fun g hn e => hn (.inr (.inl e))
 have hws : (D.was i).isSome = false := by rw [← h.was i, hw]; rfl
 have e : D.wet i = { D with was := upd D.was i (some l) } := by
  unfold PDk.wet
  rw [hws, hi]
  rfl
 have hil := (List.getElem?_eq_some_iff.1 hi).1
 obtain ⟨v', hv', hr⟩ := h.ins i l hi
 rw [hv] at hv'
 injection hv' with hv'
 subst hv'
 have hvm := List.mem_of_getElem? hv
 rw [e]
 exact {
  cells := h.cells.only ho h.dm
  t := h.t.only ho fun g hg e => (h.td g hg).2 e
  ins := fun j l' hj => by
   obtain ⟨u, hu, hr⟩ := h.ins j l' hj
   exact ⟨u, hu, Reads.only hr ho fun g hg => hmu g ((h.ct u (List.mem_of_getElem? hu)).2 g hg).2⟩
  m := hk
  wi := fun x u hu => by
   by_cases hx : x = (i : Int)
   · subst hx
     rw [upd_same] at hu
     injection hu with hu
     subst hu
     exact ⟨i, l, hil, rfl, upd_same _ _ _, Reads.only hr ho fun g hg => hmu g ((h.ct v hvm).2 g hg).2⟩
   · rw [upd_other _ _ hx] at hu
     obtain ⟨j, l', k1, k2, k3, k4⟩ := h.wi x u hu
     refine ⟨j, l', k1, k2, ?_, Reads.only k4 ho fun g hg => hmu g ((h.cw x u hu).2 g hg).2⟩
     show upd D.was i (some l) j = some l'
     rw [upd_other _ _ (fun e => hx (by rw [k2, e]))]
     exact k3
  wn := fun j hj => by
   show upd D.was i (some l) j = none
   by_cases hji : j = i
   · subst hji
     rw [upd_same] at hj
     cases hj
   · rw [upd_other _ _ (fun e => hji (by omega))] at hj
     rw [upd_other _ _ hji]
     exact h.wn j hj
  pl := fun k mask hp => by
   obtain ⟨b, mv, k1, k2, k3, k4⟩ := h.pl k mask hp
   exact ⟨b, mv, k1, k2.only ho (h.pd b k1).2.1, k3.only ho fun g hg => hmu g hg.2, k4⟩
  pn := h.pn
  dm := h.dm
  td := h.td
  pd := h.pd
  mu := h.mu
  ct := h.ct
  cw := fun x u hu => by
   by_cases hx : x = (i : Int)
   · subst hx
     rw [upd_same] at hu
     injection hu with hu
     subst hu
     exact h.ct v hvm
   · rw [upd_other _ _ hx] at hu
     exact h.cw x u hu
  lt := fun g hg => Nat.lt_of_lt_of_le (h.lt g hg) ho.size }
def PDk.may (D : PDk) (i : Int) : Int := if D.dead = true then 2 else if i < 0 ∨ (D.T.length : Int) ≤ i then 1 else 0
set_option maxRecDepth 10000 in
theorem may_at (h : DgAt A w d D tv mb vs V pp) (i : Int) :
 Calls Tryz.prog 40 #[.pointer (some ⟨d, 0, none⟩), .int .i64 i] w (SamePost w (.int .i64 (D.may i))) := by
 obtain ⟨a, c, rfl⟩ := h.form
 have c0 : w.cell? ⟨d, 0, none⟩ = some (.slice a D.T.length c) := h.cells.cell 0
 have c2 : w.cell? ⟨d, 2, none⟩ = some (.bool D.dead) := h.cells.cell 2
 unfold PDk.may
 generalize D.T.length = n at *
 clear h
 cases hq : D.dead with
 | true =>
  rw [hq] at c2
  rw [if_pos rfl]
  clear hq
  go_enter Tryz.func40, Tryz.ntmps40
  go_wp2_with fail
  go_ret
  exact ⟨rfl, rfl⟩
 | false =>
  rw [hq] at c2
  rw [if_neg (by decide)]
  clear hq
  by_cases h0 : i < 0
  · have b1 : decide (i < 0) = true := decide_eq_true h0
    rw [if_pos (.inl h0)]
    clear h0
    go_enter Tryz.func40, Tryz.ntmps40
    go_wp2_with fail
    go_ret
    exact ⟨rfl, rfl⟩
  · have b1 : decide (i < 0) = false := decide_eq_false h0
    by_cases h1 : (n : Int) ≤ i
    · have b2 : decide ((n : Int) ≤ i) = true := decide_eq_true h1
      rw [if_pos (.inr h1)]
      clear h0 h1
      go_enter Tryz.func40, Tryz.ntmps40
      go_wp2_with fail
      go_ret
      exact ⟨rfl, rfl⟩
    · have b2 : decide ((n : Int) ≤ i) = false := decide_eq_false h1
      rw [if_neg (by omega)]
      clear h0 h1
      go_enter Tryz.func40, Tryz.ntmps40
      go_wp2_with fail
      go_ret
      exact ⟨rfl, rfl⟩
end
end Go.Proofs.YtlcfoeikamkpmaaGreat

namespace Go.Proofs.YtlcfoeikamkpmaaGreat
open Go.RowKit Go.Wh Go.Maps

section
variable {A X : Nat → Prop} {w w' : World} {d mb : Nat} {D : PDk} {tv : Value} {vs : List Value} {V : Int → Option Value} {pp : Option Nat}
theorem DgAt.grow {A' : Nat → Prop} (h : DgAt A w d D tv mb vs V pp) (ha : ∀ g, A g → A' g) (hl : ∀ g, A' g → g < w.heap.size) : DgAt A' w d D tv mb vs V pp where
 cells := h.cells
 t := h.t
 ins := h.ins
 m := h.m
 wi := h.wi
 wn := h.wn
 pl k mask hp := by
  obtain ⟨b, mv, k1, k2, k3, k4⟩ := h.pl k mask hp
  exact ⟨b, mv, k1, k2, k3.mono fun g hg => ⟨ha g hg.1, hg.2⟩, k4⟩
 pn := h.pn
 dm := h.dm
 td := h.td
 pd := h.pd
 mu g hg := ha g (h.mu g hg)
 ct v hv := ⟨(h.ct v hv).1, fun g hg => ⟨ha g ((h.ct v hv).2 g hg).1, ((h.ct v hv).2 g hg).2⟩⟩
 cw x v hv := ⟨(h.cw x v hv).1, fun g hg => ⟨ha g ((h.cw x v hv).2 g hg).1, ((h.cw x v hv).2 g hg).2⟩⟩
 lt := hl
theorem DgAt.newer (h : DgAt A w d D tv mb vs V pp) (hs : Only X w w') (hx : ∀ g, A g → ¬ X g) : DgAt (Newer A w w') w' d D tv mb vs V pp :=
 (h.only hs hx).grow (fun _ hg => .inl hg) fun g hg => hg.elim (fun e => Nat.lt_of_lt_of_le (h.lt g e) hs.size) fun e => e.2
theorem PDk.wet_same {i : Nat} (h : (D.was i).isSome = true) : D.wet i = D := by
 unfold PDk.wet
 rw [if_pos h]
def DgPostN (A : Nat → Prop) (w : World) (d : Nat) (r : Int × PDk) (e : Ending) (w' : World) : Prop := e = .returned (.int .i64 r.1) ∧ DgX (Newer A w w') d r.2 w' ∧ Only A w w'
end
set_option maxHeartbeats 4000000 in
set_option maxRecDepth 100000 in
theorem write_at {A : Nat → Prop} {w : World} {d mb : Nat} {D : PDk} {tv : Value} {vs : List Value} {V : Int → Option Value} {pp : Option Nat} (h : DgAt A w d D tv mb vs V pp) (hq : D.dead = false) (hf : D.fine) (i : Nat) (l : List Int) (bv : Value) (hi : i < D.T.length) (hT : D.T.length ≤ 2000) (hb : Reads w 1 bv 64 (bc l)) (hbm : ∀ g, bv.ownBlock = some g → ¬ Mu d mb tv pp g) :
 Calls Tryz.prog 14 #[.pointer (some ⟨d, 0, none⟩), .int .i64 i, bv] w (DgPostN A w d (D.laid i l).done) := by
 have hmay : D.may i = 0 := by
  unfold PDk.may
  rw [hq, if_neg (by decide), if_neg (by omega)]
 have HM := Lib.hid (may_at h (i : Int))
 rw [hmay] at HM
 have H := Lib.hid h
 obtain ⟨ba, bcap, rfl⟩ := Reads.form hb
 have HB := Lib.hid (And.intro hb hbm)
 have HF := Lib.hid hf
 obtain ⟨g, o, c, htv, ht⟩ := h.t.form (by omega)
 have HI := Lib.hid (And.intro hi hT)
 subst htv
 have hm := h.m
 have HMB := Lib.hid hm
 have c0 : w.cell? ⟨d, 0, none⟩ = some (.slice (some ⟨g, o, none⟩) D.T.length c) := h.cells.cell 0
 have c1 : w.cell? ⟨d, 1, none⟩ = some (.map (some mb)) := h.cells.cell 1
 obtain ⟨v, hv⟩ : ∃ v, vs[i]? = some v := ⟨_, List.getElem?_eq_getElem (by have := ht.len; omega)⟩
 obtain ⟨lo, hlo⟩ : ∃ lo, D.T[i]? = some lo := ⟨_, List.getElem?_eq_getElem hi⟩
 have cv : w.cell? ⟨g, o + i, none⟩ = some v := by rw [ht.cells i (by omega)]; exact hv
 have b1 : (0 : Int) ≤ (i : Int) := by omega
 have b2 : (i : Int) < (D.T.length : Int) := by omega
 have hl : (Instr.lookup 80 (.map (some mb)) (.int .i64 (i : Int)) true).run Tryz.prog w = .ok (.tuple #[(V (i : Int)).getD (.slice none 0 0), .bool (V (i : Int)).isSome]) w :=
  hm.lookup (int_keyed Tryz.underlying3) Tryz.underlying80 (intK i (by omega)) (z := .slice none 0 0) (by kernel_rfl) true
 have HG := Lib.hid (show g ≠ mb ∧ g ≠ d ∧ d ≠ mb from ⟨(h.td g rfl).2, (h.td g rfl).1, h.dm⟩)
 have HVI := Lib.hid (And.intro hv hlo)
 obtain ⟨TL, hTL⟩ : ∃ TL, D.T.length = TL := ⟨_, rfl⟩
 have HTL := Lib.hid hTL
 rw [hTL] at c0 b2
 clear h hb hbm ht hm hv hi hT hlo hTL hf hq hmay
 go_enter Tryz.func14, Tryz.ntmps14
 go_wp2_with fail
 refine HM.out.mono ?_
 rintro e w1 ⟨rfl, rfl⟩
 go_upto_if 29 with fail
 go_cut [8, 9] (fun _ _ wc => ∃ V', DgAt A wc d (D.wet i) (.slice (some ⟨g, o, none⟩) D.T.length c) mb vs V' pp ∧ Only (fun b => b = mb) w1 wc)
 case first =>
  cases hov : V (i : Int) with
  | some u =>
   have FM := Lib.hid (show ∃ V', DgAt A w1 d (D.wet i) (.slice (some ⟨g, o, none⟩) D.T.length c) mb vs V' pp ∧ Only (fun b => b = mb) w1 w1 from ⟨V, by
    rw [PDk.wet_same (by rw [← H.out.was i, hov]; rfl)]
    exact H.out, Only.refl _ _⟩)
   clear hl hov
   go_wp2_with fail
   go_meet
   case rel => exact FM.out
  | none =>
   have HOV := Lib.hid hov
   clear hl hov
   go_wp2_with fail
   go_still_tail 12, (by kernel_rfl)
   change wpList _ _ _ _ _ w1.drew
   refine wpList_mapUpdate_k rfl _ _ _ _ rfl 22 (int_keyed Tryz.underlying3) (fun x y h => by injection h) Tryz.underlying80 rfl (HMB.out.block rfl : kmap w1.drew _ _ _ _ _) (i : Int) rfl ⟨_, intK i (by have := HI.out; omega)⟩ _ rfl ?_
   intro w3 hk3 hg3 hs3
   have F := Lib.hid (show ∃ V', DgAt A w3 d (D.wet i) (.slice (some ⟨g, o, none⟩) D.T.length c) mb vs V' pp ∧ Only (fun b => b = mb) w1 w3 from by
    have ho3 : Only (fun b => b = mb) w1 w3 := Only.undrew (Only.grown hg3 fun j e => (Option.some.inj e).symm)
    exact ⟨_, H.out.keep HVI.out.2 HVI.out.1 HOV.out hk3 ho3, ho3⟩)
   clear hk3 hg3 hs3
   go_wp2_with fail
   go_meet
   case rel => exact F.out
 case rest =>
  obtain ⟨V', h2, ho⟩ := hcut
  have H2 := Lib.hid h2
  have HO := Lib.hid ho
  have c0' : wc.cell? ⟨d, 0, none⟩ = some (.slice (some ⟨g, o, none⟩) TL c) := by rw [← HTL.out]; exact h2.cells.cell 0
  have hb2 : Reads wc 1 (.slice ba 64 bcap) 64 (bc l) := Reads.only HB.out.1 ho fun g' hg' e => HB.out.2 g' hg' (.inr (.inl e))
  have cv2 : wc.cell? ⟨g, o + i, none⟩ = some v := (Only.cell ho (World.block_lt_of_cell? _ _ cv) HG.out.1).trans cv
  have HCL := Lib.hid (fun w' (hs : Still wc w') => clone_b (.slice ba 64 bcap) 64 (bc l) w' (Reads.still hb2 hs) (bc_one l) (by omega))
  have SS := Lib.hid (fun w' (hs : Still wc w') => show w'.cell? ⟨d, 0, none⟩ = some (.slice (some ⟨g, o, none⟩) TL c) from Still.cell hs c0')
  have HCV := Lib.hid cv2
  have hwT : (D.wet i).T = D.T := rfl
  have hfr : ∀ w', Still wc w' → w'.frozen? ⟨g, o + i, none⟩ = false := fun w' hs => by
   obtain ⟨g', o', c', he, ht⟩ := (h2.still hs).t.form (by rw [hwT]; have := HI.out; omega)
   injection he with he _ _
   injection he with he
   injection he with e1 e2
   subst e1 e2
   exact ht.free i (by rw [hwT]; have := HI.out; omega)
  have HFR := Lib.hid hfr
  clear h2 ho hb2 hfr cv cv2 hl c0 c1 hwT
  go_wp2_with fail
  refine wp_region_D_drew (D := (fun i => [0, 1, 2, 4, 5, 7, 8].contains i)) (S := (fun w' => w'.cell? ⟨d, 0, none⟩ = some (.slice (some ⟨g, o, none⟩) TL c))) (by kernel_rfl) ?_ (fun hHeld => ?_)
  · exact SS.out _ (still_drew _)
  (refine takeD (i := 0) (some 42) (v := ?_) rfl (by rfl) (by rfl) (by kernel_rfl) (by rfl) (fun _ _ _ h => h) ?_ ?_; rotate_left; (intro w; go_simp; try with_reducible rfl); try go_frame)
  (refine takeD (i := 1) (some 43) (v := ?_) rfl (by rfl) (by rfl) (by kernel_rfl) (by rfl) (fun _ _ _ h => h) ?_ ?_; rotate_left; (intro w; go_simp; try with_reducible rfl); try go_frame)
  (refine takeD (i := 2) (some 44) (v := ?_) rfl (by rfl) (by rfl) (by kernel_rfl) (by rfl) (fun _ _ _ h => h) ?_ ?_; rotate_left; (intro w; go_simp; try with_reducible rfl); try go_frame)
  (refine takeD (i := 4) (some 46) (v := ?_) rfl (by rfl) (by rfl) (by kernel_rfl) (by rfl) (fun _ _ _ h => h) ?_ ?_; rotate_left; (intro w; go_simp; try with_reducible rfl); try go_frame)
  (refine takeD (i := 5) (some 47) (v := ?_) rfl (by rfl) (by rfl) (by kernel_rfl) (by rfl) (fun _ _ _ h => h) ?_ ?_; rotate_left; (intro w; go_simp; try with_reducible rfl); try go_frame)
  (refine takeS (i := 3) (some 45) (v := ?_) rfl (by rfl) (by rfl) (by kernel_rfl) (by rfl) (fun _ _ _ h => h) (by assumption) ?_ ?_; rotate_left; (intro w hSw; (try dsimp only at hSw); go_simp; try with_reducible rfl); try go_frame)
  refine wpAnyD_ready (rs := [6]) (by kernel_rfl) (by simp) ?_
  refine ReadyD.cons rfl (fun K hK => ?_) ?_
  go_simp
  (go_at_call 36; (with_reducible refine (HCL.out _ (still_drew wc)).mono ?_); rintro e w3 ⟨v3, rfl, hv3, hb3, hg3⟩)
  have hs3 : Still wc w3 := (still_drew wc).trans (Only.ofBelow hb3)
  go_wp2_with fail
  (refine hK.out _ _ ?_ (fun hNew => ?_); (focus (exact SS.out _ hs3)); clear hHeld; have hHeld := hNew; clear hNew)
  (clear hK K; try go_frame)
  have cv3 := Still.cell hs3 HCV.out
  have f3 := HFR.out _ hs3
  obtain ⟨a3, k3, hv3e⟩ := hv3.form'
  have HP := Lib.hid (show DgAt (Newer A w1 w3) (w3.setCell ⟨g, o + i, none⟩ v3) d (D.laid i l) (.slice (some ⟨g, o, none⟩) D.T.length c) mb (vs.set i v3) V' pp ∧ Only (fun b => b = mb ∨ b = g) w1 (w3.setCell ⟨g, o + i, none⟩ v3) ∧ (w3.setCell ⟨g, o + i, none⟩ v3).heap.size = w3.heap.size from by
   have hwz := HO.out.size
   have hsz3 := hs3.size
   have hA : ∀ g', A g' → g' < w1.heap.size := H.out.lt
   have hgr : DgAt (Newer A w1 w3) w3 d (D.wet i) (.slice (some ⟨g, o, none⟩) D.T.length c) mb vs V' pp := (H2.out.still hs3).grow (fun g' hg' => .inl hg') fun g' hg' => hg'.elim (fun e => by have := hA g' e; omega) fun e => e.2
   refine ⟨hgr.put rfl HI.out.1 hv3.reads (fun g' hg' => ?_) (by rw [hv3e]; rfl), ?_, by simp [World.setCell]⟩
   · have e1 := hg3 g' hg'
     have hz : wc.drew.heap.size = wc.heap.size := rfl
     exact ⟨.inr ⟨by omega, e1.2⟩, fun e => by have := hA g' (H.out.mu g' e); omega⟩
   · exact ((HO.out.mono fun b e => .inl e).trans (hs3.mono fun _ e => e.elim)).trans ((setCell_only w3 ⟨g, o + i, none⟩ v3).mono fun b e => .inr e))
  clear hv3 hb3 hg3 hs3 HFR
  subst hv3e
  (refine takeD (i := 7) (some 49) (v := ?_) rfl (by rfl) (by rfl) (by kernel_rfl) (by rfl) (fun _ _ _ h => h) ?_ ?_; rotate_left; (intro w; go_simp; try with_reducible rfl); try go_frame)
  refine wpAnyD_ready (rs := [8]) (by kernel_rfl) (by simp) ?_
  refine ReadyD.last rfl (by rfl) (fun K hK => ?_) ?_
  go_simp
  refine hK.out _ _ ?_
  (clear hK K; try go_frame)
  refine wpAnyD_done (by kernel_rfl) ?_ _
  rotate_left
  exact ReadyD.nil
  exact ReadyD.nil
  clear cv3 f3 hHeld
  obtain ⟨hp, hpo, hpz⟩ := HP.out
  have hfine : (D.laid i l).fine := HF.out
  have HCU := Lib.hid (cut_at hp hfine)
  have HPO := Lib.hid (And.intro hpo hpz)
  generalize (w3.setCell ⟨g, o + i, none⟩ (.slice a3 64 k3)) = w4 at *
  clear hp hpo hpz HP
  have HW := Lib.hid (show ∀ w' : World, Only (fun b => b = d ∨ b = mb ∨ b = g ∨ pp = some b) w4 w' → Only A w1 w' ∧ ∀ g', Newer A w1 w3 g' → Newer A w1 w' g' ∧ g' < w'.heap.size from fun w' hw' => by
   have hmu := H.out.mu
   have hsz := hw'.size
   have e3 : w4.heap.size = w3.heap.size := HPO.out.2
   refine ⟨(HPO.out.1.mono fun b e => e.elim (fun e => hmu b (.inr (.inl e))) fun e => hmu b (.inr (.inr (.inl (by rw [e]; rfl))))).trans (hw'.mono fun b e => ?_), fun g' hg' => ?_⟩
   · rcases e with e | e | e | e
     · exact hmu b (.inl e)
     · exact hmu b (.inr (.inl e))
     · exact hmu b (.inr (.inr (.inl (by rw [e]; rfl))))
     · exact hmu b (.inr (.inr (.inr e)))
   · have hA := H.out.lt
     have hz1 := HPO.out.1.size
     rcases hg' with e | e
     · have := hA g' e
       exact ⟨.inl e, by omega⟩
     · exact ⟨.inr ⟨e.1, by omega⟩, by omega⟩)
  go_wp2_with fail
  refine HCU.out.mono ?_
  rintro e w5 ⟨rfl, hp5, ho5⟩
  cases hpl : D.plan with
  | none =>
   have hc : (D.laid i l).cuts = false := by unfold PDk.cuts PDk.laid PDk.wet; dsimp only; rw [hpl]
   have hd : (D.laid i l).done = (0, (D.laid i l).less) := by
    unfold PDk.done PDk.less PDk.laid PDk.wet
    dsimp only
    rw [hpl]
    rfl
   have F := Lib.hid (show DgPostN A w1 d (D.laid i l).done (.returned (.int .i64 0)) w5 from by
    have hw := HW.out w5 (ho5.mono fun b e => .inr (.inr (.inr e)))
    rw [hd]
    exact ⟨rfl, ⟨_, _, _, _, _, hp5.grow (fun g' hg' => (hw.2 g' hg').1) fun g' hg' => hg'.elim (fun e => by have := H.out.lt g' e; have := hw.1.size; omega) fun e => e.2⟩, hw.1⟩)
   rw [hc]
   clear hp5 ho5 hc hd HCU hpl
   go_wp2_with fail
   go_ret
   exact F.out
  | some p =>
   obtain ⟨k, mask⟩ := p
   have hc : (D.laid i l).cuts = decide (k - 1 < 0) := by unfold PDk.cuts PDk.laid PDk.wet; dsimp only; rw [hpl]
   have hpl2 : (D.laid i l).less.plan = some (k - 1, mask) := by
    show D.plan.map _ = _
    rw [hpl]
    rfl
   by_cases hk : k - 1 < 0
   · have hd : (D.laid i l).done = (2, (D.laid i l).less.crash mask) := by
      unfold PDk.done PDk.laid PDk.wet
      dsimp only
      rw [hpl]
      dsimp only
      rw [if_pos hk]
      rfl
     rw [hc, decide_eq_true hk]
     obtain ⟨b, mv, hb, hbc, hsl, hby⟩ := hp5.pl _ _ hpl2
     obtain ⟨ma, mc, rfl⟩ := hsl.form
     have c3 : w5.cell? ⟨d, 3, none⟩ = some (.pointer (some ⟨b, 0, none⟩)) := by
      have := hp5.cells.cell 3
      rw [hb] at this
      exact this
     have cm : w5.cell? ⟨b, 1, none⟩ = some (.slice ma mask.length mc) := hbc.cell 1
     have HCR := Lib.hid (crash_at hp5 (by show (D.T.set i l).length ≤ 2000; rw [List.length_set]; exact HI.out.2) ma mc mask (fun _ => hsl) (fun g' hg' e => hg'.2 (.inr (.inr (.inl e)))) rfl hby)
     have HO5 := Lib.hid ho5
     have HD := Lib.hid hd
     clear hp5 ho5 hc hd HCU hpl hpl2 hk hb hbc hsl hby
     generalize mask.length = ml at *
     go_wp2_with fail
     refine HCR.out.mono ?_
     rintro e w6 ⟨rfl, ⟨vs6, hp6⟩, ho6⟩
     have F := Lib.hid (show DgPostN A w1 d (D.laid i l).done (.returned (.int .i64 2)) w6 from by
      rw [HD.out]
      have hw := HW.out w6 ((HO5.out.mono fun b e => .inr (.inr (.inr e))).trans (ho6.mono fun b e => e.elim .inl fun e => .inr (e.elim .inl fun e => .inr (.inl (Option.some.inj e).symm))))
      exact ⟨rfl, ⟨_, _, _, _, _, hp6.grow (fun g' hg' => (hw.2 g' hg').1) fun g' hg' => hg'.elim (fun e => by have := H.out.lt g' e; have := hw.1.size; omega) fun e => e.2⟩, hw.1⟩)
     clear hp6 ho6 HCR
     go_wp2_with fail
     go_ret
     exact F.out
   · have hd : (D.laid i l).done = (0, (D.laid i l).less) := by
      unfold PDk.done PDk.laid PDk.wet
      dsimp only
      rw [hpl]
      dsimp only
      rw [if_neg hk]
     have F := Lib.hid (show DgPostN A w1 d (D.laid i l).done (.returned (.int .i64 0)) w5 from by
      have hw := HW.out w5 (ho5.mono fun b e => .inr (.inr (.inr e)))
      rw [hd]
      exact ⟨rfl, ⟨_, _, _, _, _, hp5.grow (fun g' hg' => (hw.2 g' hg').1) fun g' hg' => hg'.elim (fun e => by have := H.out.lt g' e; have := hw.1.size; omega) fun e => e.2⟩, hw.1⟩)
     rw [hc, decide_eq_false hk]
     clear hp5 ho5 hc hd HCU hpl hpl2 hk
     go_wp2_with fail
     go_ret
     exact F.out
end Go.Proofs.YtlcfoeikamkpmaaGreat

namespace Go.Proofs.YtlcfoeikamkpmaaGreat
open Go.RowKit Go.Wh Go.Maps

section
variable {A X : Nat → Prop} {w w' : World} {d mb : Nat} {D : PDk} {tv : Value} {vs : List Value} {V : Int → Option Value} {pp : Option Nat}
theorem DgAt.dry (h : DgAt A w d D tv mb vs V pp) (hk : kmap w' Tryz.prog 3 (fun z : Int => .int .i64 z) mb (fun _ => none)) (ho : Only (fun b => b = mb) w w') : DgAt A w' d { D with was := fun _ => none } tv mb vs (fun _ => none) pp := by
 have hmu : ∀ g, ¬ Mu d mb tv pp g → ¬ g = mb := fun g hn e => hn (.inr (.inl e))
 exact {
  cells := h.cells.only ho h.dm
  t := h.t.only ho fun g hg e => (h.td g hg).2 e
  ins := fun j l' hj => by
   obtain ⟨u, hu, hr⟩ := h.ins j l' hj
   exact ⟨u, hu, Reads.only hr ho fun g hg => hmu g ((h.ct u (List.mem_of_getElem? hu)).2 g hg).2⟩
  m := hk
  wi := fun x u hu => by cases hu
  wn := fun j _ => rfl
  pl := fun k mask hp => by
   obtain ⟨b, mv, k1, k2, k3, k4⟩ := h.pl k mask hp
   exact ⟨b, mv, k1, k2.only ho (h.pd b k1).2.1, k3.only ho fun g hg => hmu g hg.2, k4⟩
  pn := h.pn
  dm := h.dm
  td := h.td
  pd := h.pd
  mu := h.mu
  ct := h.ct
  cw := fun x u hu => by cases hu
  lt := fun g hg => Nat.lt_of_lt_of_le (h.lt g hg) ho.size }
def PDk.sync (D : PDk) : Int × PDk := if D.dead = true then (2, D) else if D.cuts = true then (2, D.less.crash ((D.plan.map fun p => p.2).getD [])) else (0, { D.less with was := fun _ => none })
def SyPostG (A : Nat → Prop) (w : World) (d : Nat) (r : Int × PDk) (e : Ending) (w' : World) : Prop := e = .returned (.int .i64 r.1) ∧ DgX A d r.2 w' ∧ Only A w w'
set_option maxHeartbeats 2000000 in
set_option maxRecDepth 100000 in
theorem sync_at (h : DgAt A w d D tv mb vs V pp) (hf : D.fine) (hT : D.T.length ≤ 2000) :
 Calls Tryz.prog 69 #[.pointer (some ⟨d, 0, none⟩)] w (SyPostG A w d D.sync) := by
 have c2 : w.cell? ⟨d, 2, none⟩ = some (.bool D.dead) := h.cells.cell 2
 cases hq : D.dead with
 | true =>
  have F := Lib.hid (show SyPostG A w d D.sync (.returned (.int .i64 2)) w from by
   unfold PDk.sync
   rw [if_pos hq]
   exact ⟨rfl, ⟨_, _, _, _, _, h⟩, Only.refl _ _⟩)
  rw [hq] at c2
  clear h hq hf
  go_enter Tryz.func69, Tryz.ntmps69
  go_wp2_with fail
  go_ret
  exact F.out
 | false =>
  rw [hq] at c2
  have HCU := Lib.hid (cut_at h hf)
  have H := Lib.hid (And.intro h hT)
  have HQ := Lib.hid hq
  cases hc : D.cuts with
  | true =>
   have hcc := hc
   unfold PDk.cuts at hcc
   cases hpl : D.plan with
   | none => rw [hpl] at hcc; cases hcc
   | some p =>
    obtain ⟨k, mask⟩ := p
    have hpl2 : D.less.plan = some (k - 1, mask) := by
     show D.plan.map _ = _
     rw [hpl]
     rfl
    have HD := Lib.hid (show D.sync = (2, D.less.crash mask) from by
     unfold PDk.sync
     rw [if_neg (by rw [hq]; decide), if_pos hc, hpl]
     rfl)
    rw [hc] at HCU
    have HPL := Lib.hid hpl2
    clear h hf hq hc hcc hpl hpl2 hT
    go_enter Tryz.func69, Tryz.ntmps69
    go_wp2_with fail
    refine HCU.out.mono ?_
    rintro e w5 ⟨rfl, hp5, ho5⟩
    obtain ⟨b, mv, hb, hbc, hsl, hby⟩ := hp5.pl _ _ HPL.out
    obtain ⟨ma, mc, rfl⟩ := hsl.form
    have c3 : w5.cell? ⟨d, 3, none⟩ = some (.pointer (some ⟨b, 0, none⟩)) := by
     have := hp5.cells.cell 3
     rw [hb] at this
     exact this
    have cm : w5.cell? ⟨b, 1, none⟩ = some (.slice ma mask.length mc) := hbc.cell 1
    have HCR := Lib.hid (crash_at hp5 H.out.2 ma mc mask (fun _ => hsl) (fun g' hg' e => hg'.2 (.inr (.inr (.inl e)))) rfl hby)
    have HO5 := Lib.hid ho5
    clear hp5 ho5 HCU hb hbc hsl hby
    generalize mask.length = ml at *
    go_wp2_with fail
    refine HCR.out.mono ?_
    rintro e w6 ⟨rfl, ⟨vs6, hp6⟩, ho6⟩
    have F := Lib.hid (show SyPostG A w d D.sync (.returned (.int .i64 2)) w6 from by
     have hmu := H.out.1.mu
     rw [HD.out]
     exact ⟨rfl, ⟨_, _, _, _, _, hp6⟩, (HO5.out.mono fun b e => hmu b (.inr (.inr (.inr e)))).trans (ho6.mono fun b e => e.elim (fun e => hmu b (.inl e)) fun e => e.elim (fun e => hmu b (.inr (.inl e))) fun e => hmu b (.inr (.inr (.inl e))))⟩)
    clear hp6 ho6 HCR
    go_wp2_with fail
    go_ret
    exact F.out
  | false =>
   have HD := Lib.hid (show D.sync = (0, { D.less with was := fun _ => none }) from by
    unfold PDk.sync
    rw [if_neg (by rw [hq]; decide), if_neg (by rw [hc]; decide)])
   rw [hc] at HCU
   clear h hf hq hc hT
   go_enter Tryz.func69, Tryz.ntmps69
   go_wp2_with fail
   refine HCU.out.mono ?_
   rintro e w5 ⟨rfl, hp5, ho5⟩
   have c1 : w5.cell? ⟨d, 1, none⟩ = some (.map (some mb)) := hp5.cells.cell 1
   obtain ⟨w6, hrun, hk6, hg6, hs6⟩ := kmap.clear (ty := 0) hp5.m Tryz.underlying80
   have ho6 : Only (fun b => b = mb) w5 w6 := Only.grown hg6 fun j e => (Option.some.inj e).symm
   have F := Lib.hid (show SyPostG A w d D.sync (.returned (.int .i64 0)) w6 from by
    have hmu := H.out.1.mu
    rw [HD.out]
    exact ⟨rfl, ⟨_, _, _, _, _, hp5.dry hk6 ho6⟩, (ho5.mono fun b e => hmu b (.inr (.inr (.inr e)))).trans (ho6.mono fun b e => hmu b (.inr (.inl e)))⟩)
   clear hp5 ho5 HCU hk6 hg6 hs6 ho6
   go_wp2_with fail
   go_ret
   exact F.out
set_option maxRecDepth 10000 in
theorem dead_at (h : DgAt A w d D tv mb vs V pp) : Calls Tryz.prog 28 #[.pointer (some ⟨d, 0, none⟩)] w (SamePost w (.bool D.dead)) := by
 have c2 : w.cell? ⟨d, 2, none⟩ = some (.bool D.dead) := h.cells.cell 2
 generalize D.dead = q at *
 clear h
 go_enter Tryz.func28, Tryz.ntmps28
 go_wp2_with fail
 go_ret
 exact ⟨rfl, rfl⟩
theorem DgAt.cellD {k : Nat} {u : Value} {D' : PDk} {pp' : Option Nat} (h : DgAt A w d D tv mb vs V pp) (hT : D'.T = D.T) (hW : D'.was = D.was) (hc : [tv, .map (some mb), .bool D.dead, ptrV pp].set k u = [tv, .map (some mb), .bool D'.dead, ptrV pp'])
 (hpl : ∀ k mask, D'.plan = some (k, mask) → D.plan = some (k, mask)) (hpn : D'.plan = none → pp' = none) (hpp : ∀ g, pp' = some g → pp = some g) (hps : ∀ k mask, D'.plan = some (k, mask) → pp' = pp) : DgAt A (w.setCell ⟨d, k, none⟩ u) d D' tv mb vs V pp' := by
 have ho := setCell_only w ⟨d, k, none⟩ u
 have hz : (w.setCell ⟨d, k, none⟩ u).heap.size = w.heap.size := by simp [World.setCell]
 have hmu : ∀ g, ¬ Mu d mb tv pp g → ¬ g = d := fun g hn e => hn (.inl e)
 have hmm : ∀ g, Mu d mb tv pp' g → Mu d mb tv pp g := fun g hg => hg.imp id fun e => e.imp id fun e => e.imp id (hpp g)
 obtain ⟨T', was', dead', plan'⟩ := D'
 dsimp only at hT hW
 subst hT hW
 exact {
  cells := by
   have := h.cells.setCell k u
   rw [hc] at this
   exact this
  t := h.t.only ho fun g hg e => (h.td g hg).1 e
  ins := fun j l' hj => by
   obtain ⟨v, hv, hr⟩ := h.ins j l' hj
   exact ⟨v, hv, Reads.only hr ho fun g hg => hmu g ((h.ct v (List.mem_of_getElem? hv)).2 g hg).2⟩
  m := h.m.block (ho.block mb h.m.lt fun e => h.dm (show mb = d from e).symm)
  wi := fun x v hv => by
   obtain ⟨i, l, k1, k2, k3, k4⟩ := h.wi x v hv
   exact ⟨i, l, k1, k2, k3, Reads.only k4 ho fun g hg => hmu g ((h.cw x v hv).2 g hg).2⟩
  wn := h.wn
  pl := fun k' mask hp => by
   obtain ⟨b, mv, k1, k2, k3, k4⟩ := h.pl k' mask (hpl k' mask hp)
   exact ⟨b, mv, (hps k' mask hp).trans k1, k2.only ho (h.pd b k1).1, (k3.only ho fun g hg => hmu g hg.2).mono fun g hg => ⟨hg.1, fun e => hg.2 (hmm g e)⟩, k4⟩
  pn := hpn
  dm := h.dm
  td := h.td
  pd := fun g hg => h.pd g (hpp g hg)
  mu := fun g hg => h.mu g (hmm g hg)
  ct := fun v hv => ⟨(h.ct v hv).1, fun g hg => ⟨((h.ct v hv).2 g hg).1, fun e => ((h.ct v hv).2 g hg).2 (hmm g e)⟩⟩
  cw := fun x v hv => ⟨(h.cw x v hv).1, fun g hg => ⟨((h.cw x v hv).2 g hg).1, fun e => ((h.cw x v hv).2 g hg).2 (hmm g e)⟩⟩
  lt := fun g hg => by rw [hz]; exact h.lt g hg }
set_option maxRecDepth 10000 in
theorem power_at (h : DgAt A w d D tv mb vs V pp) : Calls Tryz.prog 30 #[.pointer (some ⟨d, 0, none⟩)] w (fun e w' => e = .returned (.tuple #[]) ∧ DgX A d { D with dead := false } w' ∧ Only A w w') := by
 have c2 : w.cell? ⟨d, 2, none⟩ = some (.bool D.dead) := h.cells.cell 2
 have f2 := h.cells.free 2
 have F := Lib.hid (show DgX A d { D with dead := false } (w.setCell ⟨d, 2, none⟩ (.bool false)) ∧ Only A w (w.setCell ⟨d, 2, none⟩ (.bool false)) from ⟨⟨_, _, _, _, pp, h.cellD rfl rfl rfl (fun _ _ e => e) h.pn (fun _ e => e) fun _ _ _ => rfl⟩, (setCell_only w ⟨d, 2, none⟩ _).mono fun b e => by rw [show b = d from e]; exact h.mu d (.inl rfl)⟩)
 clear h
 generalize D.dead = q at c2
 go_enter Tryz.func30, Tryz.ntmps30
 go_wp2_with fail
 go_end0
 exact ⟨rfl, F.out⟩
theorem tiles_at (h : DgAt A w d D tv mb vs V pp) : Calls Tryz.prog 33 #[.pointer (some ⟨d, 0, none⟩)] w (SamePost w (.int .i64 D.T.length)) := by
 obtain ⟨a, c, rfl⟩ := h.form
 have c0 : w.cell? ⟨d, 0, none⟩ = some (.slice a D.T.length c) := h.cells.cell 0
 generalize D.T.length = n at *
 clear h
 go_enter Tryz.func33, Tryz.ntmps33
 go_wp2_with fail
 go_ret
 exact ⟨rfl, rfl⟩
set_option maxHeartbeats 1000000 in
theorem read_at (h : DgAt A w d D tv mb vs V pp) (hq : D.dead = false) (i : Nat) (l : List Int) (hi : D.T[i]? = some l) :
 Calls Tryz.prog 31 #[.pointer (some ⟨d, 0, none⟩), .int .i64 i] w (fun e w' => ∃ v, e = .returned (.tuple #[v, .int .i64 0]) ∧ Vec w' 1 v 64 (bc l) ∧ Still w w' ∧ ∀ g, v.ownBlock = some g → w.heap.size ≤ g ∧ g < w'.heap.size) := by
 have hl := (List.getElem?_eq_some_iff.1 hi).1
 have HM := Lib.hid (may_at h (i : Int))
 have hmay : D.may i = 0 := by
  unfold PDk.may
  rw [hq, if_neg (by decide), if_neg (by omega)]
 rw [hmay] at HM
 obtain ⟨v, hv, hr⟩ := h.ins i l hi
 have HC := Lib.hid (clone_b v 64 (bc l) w hr (bc_one l) (by omega))
 obtain ⟨g, o, c, rfl, ht⟩ := h.t.form (by omega)
 have c0 : w.cell? ⟨d, 0, none⟩ = some (.slice (some ⟨g, o, none⟩) D.T.length c) := h.cells.cell 0
 have c1 : w.cell? ⟨g, o + i, none⟩ = some v := by
  rw [ht.cells i (by omega)]
  exact hv
 have b1 : (0 : Int) ≤ (i : Int) := by omega
 have b2 : (i : Int) < (D.T.length : Int) := by omega
 generalize D.T.length = n at *
 clear h hi hl hv hr ht hmay hq
 go_enter Tryz.func31, Tryz.ntmps31
 go_wp2_with fail
 refine HM.out.mono ?_
 rintro e w1 ⟨rfl, rfl⟩
 go_wp2_with fail
 refine HC.out.mono ?_
 rintro e w2 ⟨v2, rfl, hv2, hb2, hg2⟩
 have F := Lib.hid (show ∃ v, (Ending.returned (.tuple #[v2, .int .i64 0])) = .returned (.tuple #[v, .int .i64 0]) ∧ Vec w2 1 v 64 (bc l) ∧ Still w1 w2 ∧ ∀ g, v.ownBlock = some g → w1.heap.size ≤ g ∧ g < w2.heap.size from ⟨v2, rfl, hv2, Only.ofBelow hb2, hg2⟩)
 clear hv2 hb2 hg2 HC HM
 go_wp2_with fail
 go_ret2
 exact F.out
end
end Go.Proofs.YtlcfoeikamkpmaaGreat
