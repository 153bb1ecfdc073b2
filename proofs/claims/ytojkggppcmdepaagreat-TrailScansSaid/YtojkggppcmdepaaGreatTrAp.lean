/- A trail: an entry more; all entries stable. Conditions: all lies in memory, apart. -/
import Derived.Test.YtojkggppcmdepaaGreatTrFr
import Derived.Test.YtojkggppcmdepaaGreatTrG
namespace Go.Proofs.YtojkggppcmdepaaGreat
open Go.RowKit Go.Wh Go.Maps

/-- A trail at t of the disk at d, n tiles from at on: its entries, how many are stable; it owns the blocks of B. -/
structure TlX (B : Nat → Prop) (t d at_ n : Nat) (es : List PE) (st : Nat) (w : World) : Prop where
  tl : ∃ sv, TlAt w t d at_ n (streamB es) sv es.length st ∧ B t ∧ ∀ g, sv.ownBlock = some g → B g
  lt : ∀ g, B g → g < w.heap.size
  len : (streamB es).length ≤ n * 63
  n_le : n ≤ 2000
  may : ∀ e ∈ es, e.may = true
  byt : ∀ e ∈ es, Byt e.old ∧ Byt e.new
  st_le : st ≤ es.length
theorem TlX.only {B S : Nat → Prop} {t d at_ n st : Nat} {es : List PE} {w w' : World} (h : TlX B t d at_ n es st w) (ho : Only S w w') (hs : ∀ g, B g → ¬ S g) : TlX B t d at_ n es st w' := by
  obtain ⟨sv, h1, h2, h3⟩ := h.tl
  exact ⟨⟨sv, h1.only ho (hs t h2) fun g hg => hs g (h3 g hg), h2, h3⟩, fun g hg => Nat.lt_of_lt_of_le (h.lt g hg) ho.size, h.len, h.n_le, h.may, h.byt, h.st_le⟩
theorem TlX.still {B : Nat → Prop} {t d at_ n st : Nat} {es : List PE} {w w' : World} (h : TlX B t d at_ n es st w) (hs : Still w w') : TlX B t d at_ n es st w' := h.only hs fun _ _ e => e
/-- Blocks that are new since w. -/
def Newer (B : Nat → Prop) (w w' : World) (g : Nat) : Prop := B g ∨ (w.heap.size ≤ g ∧ g < w'.heap.size)

/-- What an append answers. -/
def ApPost (B : Nat → Prop) (w : World) (t d at_ n : Nat) (es : List PE) (st : Nat) (e : PE) (en : Ending) (w' : World) : Prop :=
  ∃ es' a k, en = .returned (.tuple #[.int .i64 a, .int .i64 k]) ∧ TlX (Newer B w w') t d at_ n es' st w' ∧ Only B w w' ∧
    ((e.may = false ∧ es' = es ∧ a = 0 ∧ k = 1) ∨ (e.may = true ∧ n * 63 < (streamB es).length + (frameB e).length ∧ es' = es ∧ a = 0 ∧ k = 5) ∨ (e.may = true ∧ (streamB es).length + (frameB e).length ≤ n * 63 ∧ es' = es ++ [e] ∧ a = ((es.length + 1 : Nat) : Int) ∧ k = 0))
theorem TlX.newer {B : Nat → Prop} {t d at_ n st : Nat} {es : List PE} {w w' : World} (h : TlX B t d at_ n es st w) (hs : Still w w') : TlX (Newer B w w') t d at_ n es st w' := by
  have h' := h.still hs
  obtain ⟨sv, h1, h2, h3⟩ := h'.tl
  exact ⟨⟨sv, h1, .inl h2, fun g hg => .inl (h3 g hg)⟩, fun g hg => hg.elim (h'.lt g) fun e => e.2, h'.len, h'.n_le, h'.may, h'.byt, h'.st_le⟩

theorem own_slice {a : Option Addr} {m c m' c' : Nat} : (Value.slice a m c).ownBlock = (Value.slice a m' c').ownBlock := by cases a <;> rfl
def ApRes (B : Nat → Prop) (w : World) (t d at_ n : Nat) (es : List PE) (st : Nat) (e : PE) (v : Value) (w' : World) : Prop := ApPost B w t d at_ n es st e (.returned v) w'
set_option maxHeartbeats 4000000 in
set_option maxRecDepth 100000 in
theorem append_no {Q : Nat → Prop} (B : Nat → Prop) (w : World) (t d at_ n : Nat) (es : List PE) (st : Nat) (e : PE) (ov nv mv lv dv pv : Value) (h : TlX B t d at_ n es st w) (he : EIs w Q e ov nv mv lv dv pv) (hm : e.may = false) :
    Calls Tryz.prog 17 #[.pointer (some ⟨t, 0, none⟩), .agg (eV e ov nv mv lv dv pv)] w (ApPost B w t d at_ n es st e) := by
  obtain ⟨oa, oc, na, nc, ma, mc, la, lc, da, dc, pa, pc, rfl, rfl, rfl, rfl, rfl, rfl⟩ := he.forms
  have hst : ∀ ob, Still w (w.alloc ob) := fun ob => (Still.refl w).alloc ob
  have HF := Lib.hid (fun ob => frame_no (w.alloc ob) Q e _ _ _ _ _ _ (he.still (hst ob)) hm)
  unfold eV at HF ⊢
  have HS := Lib.hid hst
  have H := Lib.hid (And.intro h hm)
  clear h he hm hst
  go_enter Tryz.func17, Tryz.ntmps17
  go_wp2_with fail
  refine (HF.out _).mono ?_
  rintro en w2 ⟨bv, rfl, hbv, hb2, ho2⟩
  obtain ⟨ba, bcp, rfl⟩ := hbv.form'
  have hs2 := (HS.out _).trans (Only.ofBelow hb2)
  have F := Lib.hid (show ApPost B w t d at_ n es st e (.returned (.tuple #[.int .i64 0, .int .i64 1])) w2 from ⟨es, 0, 1, rfl, H.out.1.newer hs2, hs2.mono fun _ e => e.elim, .inl ⟨H.out.2, rfl, rfl, rfl⟩⟩)
  clear hbv hb2 ho2 hs2 HF HS
  go_wp2_with fail
  go_ret2
  exact F.out
set_option maxHeartbeats 4000000 in
set_option maxRecDepth 100000 in
theorem append_yes {Q : Nat → Prop} (B : Nat → Prop) (w : World) (t d at_ n : Nat) (es : List PE) (st : Nat) (e : PE) (ov nv mv lv dv pv : Value) (h : TlX B t d at_ n es st w) (he : EIs w Q e ov nv mv lv dv pv) (hm : e.may = true) :
    Calls Tryz.prog 17 #[.pointer (some ⟨t, 0, none⟩), .agg (eV e ov nv mv lv dv pv)] w (ApPost B w t d at_ n es st e) := by
  obtain ⟨oa, oc, na, nc, ma, mc, la, lc, da, dc, pa, pc, rfl, rfl, rfl, rfl, rfl, rfl⟩ := he.forms
  have hst : ∀ ob, Still w (w.alloc ob) := fun ob => (Still.refl w).alloc ob
  have HF := Lib.hid (fun ob => frame_yes (w.alloc ob) Q e _ _ _ _ _ _ (he.still (hst ob)) hm)
  unfold eV at HF ⊢
  have HS := Lib.hid hst
  have hfl := frameB_length e
  have hel := encB_le e hm
  have HBF := Lib.hid (frameB_byt e he.bo he.bn)
  have H := Lib.hid (And.intro h (And.intro hm (And.intro he.bo he.bn)))
  obtain ⟨fl, hfl2⟩ : ∃ fl, (frameB e).length = fl := ⟨_, rfl⟩
  have hfb : 1 ≤ fl ∧ fl ≤ 8010 := by omega
  rw [hfl2] at HF
  have HFL := Lib.hid hfl2
  obtain ⟨i0, hi0, hz0, hz1, hz2⟩ := info_parts info_b
  have HI := Lib.hid (And.intro hi0 (And.intro hz0 (And.intro hz1 hz2)))
  clear h he hm hst hfl hel hfl2 hi0 hz0 hz1 hz2
  go_enter Tryz.func17, Tryz.ntmps17
  go_wp2_with fail
  refine (HF.out _).mono ?_
  rintro en w2 ⟨bv, rfl, hbv, hb2, ho2⟩
  obtain ⟨ba, bcp, rfl⟩ := hbv.form'
  have hs2 := (HS.out _).trans (Only.ofBelow hb2)
  have hl0 : ((fl : Int) == 0) = false := by simp; omega
  have h2 := H.out.1.still hs2
  obtain ⟨sv, htl, hBt, hBs⟩ := h2.tl
  have HLF := Lib.hid (left_any w2 t d at_ n (streamB es) sv es.length st htl h2.n_le (by have := h2.len; have := h2.n_le; omega))
  have H2 := Lib.hid (And.intro h2 (And.intro hs2 (And.intro hbv (And.intro ho2 (And.intro htl (And.intro hBt hBs))))))
  have hSl : (streamB es).length ≤ 126000 := by have := h2.len; have := h2.n_le; omega
  have hnl := h2.n_le
  generalize hsl : (streamB es).length = sl at *
  have HSL := Lib.hid hsl
  clear hbv hb2 ho2 hs2 HF HS h2 htl hBt hBs hsl
  go_wp2_with fail
  refine HLF.out.mono ?_
  rintro en w3 ⟨rfl, hs3⟩
  have HS3 := Lib.hid hs3
  clear hs3 HLF
  by_cases hfull : n * 63 < sl + fl
  · have e1 : decide (63 * (n : Int) - (sl : Int) < (fl : Int)) = true := decide_eq_true (by omega)
    have F := Lib.hid (show ApPost B w t d at_ n es st e (.returned (.tuple #[.int .i64 0, .int .i64 5])) w3 from ⟨es, 0, 5, rfl, H.out.1.newer (H2.out.2.1.trans HS3.out), (H2.out.2.1.trans HS3.out).mono fun _ e => e.elim, .inr (.inl ⟨H.out.2.1, by rw [HSL.out, HFL.out]; exact hfull, rfl, rfl, rfl⟩)⟩)
    clear hfull
    go_wp2_with fail
    go_ret2
    exact F.out
  · have e1 : decide (63 * (n : Int) - (sl : Int) < (fl : Int)) = false := decide_eq_false (by omega)
    have HFU := Lib.hid hfull
    have htl3 := H2.out.2.2.2.2.1.still HS3.out
    obtain ⟨sa, sc, rfl⟩ := htl3.s.form'
    have c3 : w3.cell? ⟨t, 3, none⟩ = some (.slice sa (streamB es).length sc) := htl3.cells.cell 3
    have c4 : w3.cell? ⟨t, 4, none⟩ = some (.int .i64 es.length) := htl3.cells.cell 4
    rw [HSL.out] at c3
    have HT3 := Lib.hid htl3
    have HB3 := Lib.hid (Reads.still H2.out.2.2.1.reads HS3.out)
    clear htl3 hfull
    have hcl : es.length ≤ 126000 := by have := streamB_len es; have := HSL.out; omega
    have HCL := Lib.hid hcl
    have hv3 : Vec w3 1 (.slice sa sl sc) sl (bc (streamB es)) := by
      have := HT3.out.s
      rwa [HSL.out] at this
    have HV3 := Lib.hid hv3
    have u9 : IntKind.i64.wrap ((es.length : Int) + 1) = (es.length : Int) + 1 := IntWalk.i64_in _ (by omega)
    have HFIN := Lib.hid (fun v' w' (hv' : Vec w' 1 v' (sl + fl) (bc (streamB es) ++ bc (frameB e))) (ho' : Only (fun k => (Value.slice sa sl sc).ownBlock = some k) w3 w') (hb' : v'.ownBlock = (Value.slice sa sl sc).ownBlock ∨ ∃ g, v'.ownBlock = some g ∧ w3.heap.size ≤ g ∧ g < w'.heap.size) =>
      show w'.cell? ⟨t, 3, none⟩ = some (.slice sa sl sc) ∧ w'.frozen? ⟨t, 3, none⟩ = false ∧ w'.cell? ⟨t, 4, none⟩ = some (.int .i64 es.length) ∧ w'.frozen? ⟨t, 4, none⟩ = false ∧ ApPost B w t d at_ n es st e (.returned (.tuple #[.int .i64 ((es.length : Int) + 1), .int .i64 0])) ((w'.setCell ⟨t, 3, none⟩ v').setCell ⟨t, 4, none⟩ (.int .i64 ((es.length : Int) + 1))) from by
      have hne : ¬ (Value.slice sa sl sc).ownBlock = some t := fun e => (HT3.out.st_ t (own_slice.trans e)).1 rfl
      have hc := HT3.out.cells.only ho' hne
      have e3 : w'.cell? ⟨t, 3, none⟩ = some (.slice sa sl sc) := by
        have := hc.cell 3
        rw [HSL.out] at this
        exact this
      refine ⟨e3, hc.free 3, hc.cell 4, hc.free 4, es ++ [e], _, _, rfl, ?_, ?_, .inr (.inr ⟨H.out.2.1, by rw [HSL.out, HFL.out]; have := HFU.out; omega, rfl, by omega, rfl⟩)⟩
      · have hs1 := setCell_only w' ⟨t, 3, none⟩ v'
        have hs2 := setCell_only (w'.setCell ⟨t, 3, none⟩ v') ⟨t, 4, none⟩ (.int .i64 ((es.length : Int) + 1))
        have hss : Only (fun b => b = t) w' ((w'.setCell ⟨t, 3, none⟩ v').setCell ⟨t, 4, none⟩ (.int .i64 ((es.length : Int) + 1))) := hs1.trans hs2
        have hzz : ((w'.setCell ⟨t, 3, none⟩ v').setCell ⟨t, 4, none⟩ (.int .i64 ((es.length : Int) + 1))).heap.size = w'.heap.size := by simp [World.setCell]
        have hcc := (hc.setCell 3 v').setCell 4 (.int .i64 ((es.length : Int) + 1))
        have hzo := ho'.size
        have hz3 := HS3.out.size
        have hz2 := H2.out.2.1.size
        have htl := HT3.out.cells.lt
        have hv't : ∀ g, v'.ownBlock = some g → g ≠ t ∧ g < w'.heap.size ∧ (B g ∨ w.heap.size ≤ g) := fun g hg => by
          rcases hb' with e' | ⟨g', e', e1, e2⟩
          · rw [e'] at hg
            have hg2 : (Value.slice sa (streamB es).length sc).ownBlock = some g := own_slice.trans hg
            have h1 := HT3.out.st_ g hg2
            exact ⟨h1.1, by omega, .inl (H2.out.2.2.2.2.2.2 g hg2)⟩
          · rw [e'] at hg
            injection hg with hg
            exact ⟨by omega, by omega, .inr (by omega)⟩
        have hbS := (streamB_append es [e]).trans (by rw [streamB_one])
        refine ⟨⟨v', ⟨?_, ?_, ?_, fun g hg => ⟨(hv't g hg).1, by rw [hzz]; exact (hv't g hg).2.1⟩⟩, .inl H2.out.2.2.2.2.2.1, fun g hg => (hv't g hg).2.2.elim .inl fun h => .inr ⟨h, by rw [hzz]; exact (hv't g hg).2.1⟩⟩, fun g hg => ?_, ?_, H.out.1.n_le, ?_, ?_, ?_⟩
        · rw [List.length_append, List.length_singleton]
          have : (((es.length + 1 : Nat)) : Int) = (es.length : Int) + 1 := by omega
          rw [this]
          exact hcc
        · rw [hbS, List.length_append, HSL.out, HFL.out, bc_append]
          exact hv'.only hss fun g hg e => (hv't g hg).1 e
        · rw [hbS]
          exact HT3.out.byt.append HBF.out
        · rw [hzz]
          rcases hg with hg | hg
          · have := H.out.1.lt g hg
            omega
          · have := hg.2
            rw [hzz] at this
            exact this
        · rw [hbS, List.length_append, HSL.out, HFL.out]
          have := HFU.out
          omega
        · intro x hx
          rcases List.mem_append.1 hx with hx | hx
          · exact H.out.1.may x hx
          · rw [List.mem_singleton.1 hx]
            exact H.out.2.1
        · intro x hx
          rcases List.mem_append.1 hx with hx | hx
          · exact H.out.1.byt x hx
          · rw [List.mem_singleton.1 hx]
            exact H.out.2.2
        · have := H.out.1.st_le
          rw [List.length_append]
          omega
      · have h1 : Only B w w' := ((H2.out.2.1.trans HS3.out).mono (T := B) fun _ e => e.elim).andThen ho' fun i hi e => H2.out.2.2.2.2.2.2 i (own_slice.trans e)
        exact (h1.setCell (.inl H2.out.2.2.2.2.2.1) _).setCell (.inl H2.out.2.2.2.2.2.1) _)
    clear hv3 hcl
    go_wp2_with (at_builtin; refine wpList_append_vec rfl _ _ 23 rfl 5 i0 _ 1 1 Tryz.underlying23 HI.out.1 HI.out.2.1 HI.out.2.2.1 HI.out.2.2.2 rfl (by decide) (.slice sa sl sc) sl (bc (streamB es)) (by simp [Act.eval]) HV3.out (.slice ba fl bcp) fl (bc (frameB e)) (by simp [Act.eval]) HB3.out (bc_one _) (by simp only [maxLen]; omega) (by omega) ?_; intro v' w' hv' ho' hb'; obtain ⟨g3, f3, g4, f4, hF⟩ := HFIN.out v' w' hv' ho' hb'; obtain ⟨va', vc', rfl⟩ := hv'.form'; have F := Lib.hid hF; clear hv' ho' hb' hF HFIN c3 c4)
    go_wp2_with fail
    go_ret2
    exact F.out
theorem append_any {Q : Nat → Prop} (B : Nat → Prop) (w : World) (t d at_ n : Nat) (es : List PE) (st : Nat) (e : PE) (ov nv mv lv dv pv : Value) (h : TlX B t d at_ n es st w) (he : EIs w Q e ov nv mv lv dv pv) :
    Calls Tryz.prog 17 #[.pointer (some ⟨t, 0, none⟩), .agg (eV e ov nv mv lv dv pv)] w (ApPost B w t d at_ n es st e) := by
  cases hm : e.may with
  | true => exact append_yes B w t d at_ n es st e ov nv mv lv dv pv h he hm
  | false => exact append_no B w t d at_ n es st e ov nv mv lv dv pv h he hm
end Go.Proofs.YtojkggppcmdepaaGreat
