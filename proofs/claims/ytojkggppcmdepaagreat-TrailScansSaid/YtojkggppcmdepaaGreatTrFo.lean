/- A trail: all entries stable; opened. Conditions: all lies in memory, apart. -/
import Derived.Test.YtojkggppcmdepaaGreatTrAp
import Derived.Test.YtojkggppcmdepaaGreatTrSc
import Derived.Test.YtojkggppcmdepaaGreatTrOq
namespace Go.Proofs.YtojkggppcmdepaaGreat
open Go.RowKit Go.Wh Go.Maps

/-- A disk at d of the tiles T, alive, nothing to be cut; it owns the blocks of A. -/
structure DkX (A : Nat → Prop) (d : Nat) (T : List (List Int)) (w : World) : Prop where
  dk : ∃ tv mb vs, DkAt w d T tv mb vs ∧ A d ∧ A mb ∧ (∀ g, tv.ownBlock = some g → A g) ∧ ∀ v ∈ vs, ∀ g, v.ownBlock = some g → A g
  lt : ∀ g, A g → g < w.heap.size
  byt : ∀ l ∈ T, Byt l
  len : T.length ≤ 2000
theorem DkX.only {A S : Nat → Prop} {d : Nat} {T : List (List Int)} {w w' : World} (h : DkX A d T w) (ho : Only S w w') (hs : ∀ g, A g → ¬ S g) : DkX A d T w' := by
  obtain ⟨tv, mb, vs, h1, h2, h3, h4, h5⟩ := h.dk
  exact ⟨⟨tv, mb, vs, h1.only ho (hs d h2) (hs mb h3) (fun g hg => hs g (h4 g hg)) (fun v hv g hg => hs g (h5 v hv g hg)), h2, h3, h4, h5⟩, fun g hg => Nat.lt_of_lt_of_le (h.lt g hg) ho.size, h.byt, h.len⟩
theorem DkX.still {A : Nat → Prop} {d : Nat} {T : List (List Int)} {w w' : World} (h : DkX A d T w) (hs : Still w w') : DkX A d T w' := h.only hs fun _ _ e => e
theorem DkX.newer {A : Nat → Prop} {d : Nat} {T : List (List Int)} {w w' : World} (h : DkX A d T w) (hs : Still w w') : DkX (Newer A w w') d T w' := by
  obtain ⟨tv, mb, vs, h1, h2, h3, h4, h5⟩ := (h.still hs).dk
  exact ⟨⟨tv, mb, vs, h1, .inl h2, .inl h3, fun g hg => .inl (h4 g hg), fun v hv g hg => .inl (h5 v hv g hg)⟩, fun g hg => hg.elim ((h.still hs).lt g) fun e => e.2, h.byt, h.len⟩
/-- What turns a disk's tiles leaves it. -/
theorem DkX.turn {A : Nat → Prop} {d mb : Nat} {T T' : List (List Int)} {tv : Value} {vs : List Value} {w w' : World} {e : Ending} (h : DkX A d T w) (h3 : A mb) (h4 : ∀ g, tv.ownBlock = some g → A g) (h5 : ∀ v ∈ vs, ∀ g, v.ownBlock = some g → A g) (h2 : A d) (hw : WrPost w d T' tv mb vs e w') (hb : ∀ l ∈ T', Byt l) (hl : T'.length = T.length) :
    e = .returned (.int .i64 0) ∧ DkX (Newer A w w') d T' w' ∧ Only A w w' := by
  obtain ⟨he, vs', k1, k2, k3⟩ := hw
  have hz := k2.size
  refine ⟨he, ⟨⟨tv, mb, vs', k1, .inl h2, .inl h3, fun g hg => .inl (h4 g hg), fun v hv g hg => ?_⟩, fun g hg => hg.elim (fun e => by have := h.lt g e; omega) fun e => e.2, hb, by rw [hl]; exact h.len⟩, k2.mono fun b e => e.elim (fun e => e ▸ h3) (h4 b)⟩
  rcases k3 v hv with hv' | hv'
  · exact .inl (h5 v hv' g hg)
  · exact .inr ⟨hv' g hg, (k1.ia v hv g hg).2.2.2⟩

theorem clean_x {A B : Nat → Prop} {w : World} {t d at_ n st : Nat} {es : List PE} {T : List (List Int)} (h : TlX B t d at_ n es st w) (hd : DkX A d T w) (hab : ∀ g, A g → ¬ B g) (hn : at_ + n ≤ T.length) :
    Calls Tryz.prog 45 #[.pointer (some ⟨t, 0, none⟩)] w (fun e w' => e = .returned (.int .i64 0) ∧ DkX (Newer A w w') d (layB T at_ (streamB es) n) w' ∧ Only A w w') := by
  obtain ⟨sv, h1, h2, h3⟩ := h.tl
  obtain ⟨tv, mb, vs, k1, k2, k3, k4, k5⟩ := hd.dk
  refine (clean_any w t d at_ n (streamB es) sv es.length st T tv mb vs h1 k1 ⟨fun e => hab mb k3 (e ▸ h2), fun e => hab t (k4 t e) h2, fun g hg => ⟨fun e => hab mb k3 (e ▸ h3 g hg), fun e => hab g (k4 g e) (h3 g hg)⟩⟩ hd.len hn hd.byt (by have := h.len; have := h.n_le; omega)).mono fun e w' hw => ?_
  exact hd.turn k3 k4 k5 k2 hw (layB_byt hd.byt (streamB_byt h.byt)) layB_length

/-- What a Force leaves. -/
def FoPost (A B : Nat → Prop) (w : World) (t d at_ n : Nat) (es : List PE) (T : List (List Int)) (en : Ending) (w' : World) : Prop :=
  en = .returned (.int .i64 0) ∧ TlX B t d at_ n es es.length w' ∧ DkX (Newer A w w') d T w' ∧ Only (fun b => A b ∨ B b) w w'
set_option maxHeartbeats 2000000 in
set_option maxRecDepth 100000 in
theorem force_any {A B : Nat → Prop} {w : World} {t d at_ n st : Nat} {es : List PE} {T : List (List Int)} (h : TlX B t d at_ n es st w) (hd : DkX A d T w) (hab : ∀ g, A g → ¬ B g) (hn : at_ + n ≤ T.length) :
    Calls Tryz.prog 19 #[.pointer (some ⟨t, 0, none⟩)] w (FoPost A B w t d at_ n es (if st = es.length then T else layB T at_ (streamB es) n)) := by
  obtain ⟨sv, h1, h2, h3⟩ := h.tl
  have c4 : w.cell? ⟨t, 4, none⟩ = some (.int .i64 es.length) := h1.cells.cell 4
  have c5 : w.cell? ⟨t, 5, none⟩ = some (.int .i64 st) := h1.cells.cell 5
  have H := Lib.hid (And.intro h (And.intro hd (And.intro hab (And.intro hn (And.intro h2 h3)))))
  by_cases hs : st = es.length
  · have hq : ((st : Int) == (es.length : Int)) = true := by rw [hs]; simp
    rw [if_pos hs]
    have F := Lib.hid (fun w' (k : Still w w') => show FoPost A B w t d at_ n es T (.returned (.int .i64 0)) w' from ⟨rfl, by rw [← hs]; exact h.still k, hd.newer k, k.mono fun _ e => e.elim⟩)
    clear h hd hab hn h1 h2 h3 hs
    generalize es.length = L at *
    go_enter Tryz.func19, Tryz.ntmps19
    go_wp2_with fail
    go_quiet (fail)
    go_wp2_with fail
    go_ret
    exact F.out _ ((Still.refl w).drewN _)
  · have hq : ((st : Int) == (es.length : Int)) = false := by simp; omega
    rw [if_neg hs]
    have HC := Lib.hid (fun w' (k : Still w w') => clean_x (h.still k) (hd.still k) hab hn)
    clear h hd hab hn h1 h2 h3 hs
    go_enter Tryz.func19, Tryz.ntmps19
    go_wp2_with fail
    go_quiet (fail)
    have hs2 : Still w (w.drewN nq) := (Still.refl w).drewN _
    go_wp2_with fail
    refine (HC.out _ hs2).mono ?_
    rintro en w3 ⟨rfl, k1, k2⟩
    have ht3 := (H.out.1.still hs2).only k2 fun g hg e => H.out.2.2.1 g e hg
    obtain ⟨sv3, e1, e2, e3⟩ := ht3.tl
    have g4 : w3.cell? ⟨t, 4, none⟩ = some (.int .i64 es.length) := e1.cells.cell 4
    have g5 : w3.cell? ⟨t, 5, none⟩ = some (.int .i64 st) := e1.cells.cell 5
    have f5 := e1.cells.free 5
    have F := Lib.hid (show FoPost A B w t d at_ n es (layB T at_ (streamB es) n) (.returned (.int .i64 0)) (w3.setCell ⟨t, 5, none⟩ (.int .i64 es.length)) from by
      have hs5 := setCell_only w3 ⟨t, 5, none⟩ (.int .i64 es.length)
      have hzz : (w3.setCell ⟨t, 5, none⟩ (.int .i64 es.length)).heap.size = w3.heap.size := by simp [World.setCell]
      have hzd : (w.drewN nq).heap.size = w.heap.size := rfl
      have hz3 := k2.size
      have hlt := e1.cells.lt
      refine ⟨rfl, ⟨⟨sv3, ⟨e1.cells.setCell 5 _, e1.s.only hs5 fun g hg e => (e1.st_ g hg).1 e, e1.byt, fun g hg => ⟨(e1.st_ g hg).1, by rw [hzz]; exact (e1.st_ g hg).2⟩⟩, e2, e3⟩, fun g hg => by rw [hzz]; exact ht3.lt g hg, ht3.len, ht3.n_le, ht3.may, ht3.byt, Nat.le_refl _⟩, ?_, ?_⟩
      · have := k1.only hs5 fun g hg e => by
          have e' : g = t := e
          rcases hg with hg | hg
          · exact H.out.2.2.1 g hg (e' ▸ H.out.2.2.2.2.1)
          · have := H.out.1.lt t H.out.2.2.2.2.1
            have := hg.1
            omega
        have hN : ∀ g, Newer A (w.drewN nq) w3 g ↔ Newer A w (w3.setCell ⟨t, 5, none⟩ (.int .i64 es.length)) g := fun g => by
          unfold Newer
          rw [hzz, hzd]
        have heq : Newer A (w.drewN nq) w3 = Newer A w (w3.setCell ⟨t, 5, none⟩ (.int .i64 es.length)) := funext fun g => propext (hN g)
        rwa [heq] at this
      · exact ((hs2.mono fun _ e => e.elim).trans (k2.mono fun _ e => .inl e)).setCell (.inl (.inr H.out.2.2.2.2.1)) _)
    clear k1 k2 ht3 e1 e2 e3 hs2 HC
    go_wp2_with fail
    go_ret
    exact F.out
end Go.Proofs.YtojkggppcmdepaaGreat
