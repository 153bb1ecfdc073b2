/- A trail on a disk that may be armed: its tiles are laid. Conditions: both lie in memory; the disk is alive. Whose a block is, by colours: what a step turns, what it makes. No conditions. A disk that is armed. Conditions: it lies in memory; a mask that lies in memory. A new disk. Conditions: at most two thousand tiles. What a cleaning leaves on a disk: plain. No program. No conditions. What a disk's Write, a trail's Force and Open leave: plain. No program. No conditions. -/
import Derived.Test.YtlcfoeikamkpmaaGreatPr16
namespace Go.Proofs.YtlcfoeikamkpmaaGreat
open Go.RowKit Go.Wh Go.Maps

section
variable {A A' X : Nat → Prop} {w w' w'' : World} {d : Nat} {D : PDk}
theorem DgX.grow (h : DgX A d D w) (ha : ∀ g, A g → A' g) (hl : ∀ g, A' g → g < w.heap.size) : DgX A' d D w := by
 obtain ⟨tv, mb, vs, V, pp, h⟩ := h
 exact ⟨tv, mb, vs, V, pp, h.grow ha hl⟩
theorem DgX.lt (h : DgX A d D w) : ∀ g, A g → g < w.heap.size := by
 obtain ⟨tv, mb, vs, V, pp, h⟩ := h
 exact h.lt
theorem DgX.lens (h : DgX A d D w) {i : Nat} {l : List Int} (hi : D.T[i]? = some l) : l.length = 64 := by
 obtain ⟨tv, mb, vs, V, pp, h⟩ := h
 obtain ⟨v, _, hr⟩ := h.ins i l hi
 have := hr.1
 rw [bc_length] at this
 omega
theorem only_newer (ho : Only A w w') (h2 : Only (Newer A w w') w' w'') : Only A w w'' :=
 ho.andThen h2 fun i hi e => e.elim id fun e => by omega
theorem DgX.next (ho : Only A w w') (hl : ∀ g, A g → g < w.heap.size) (h : DgX (Newer (Newer A w w') w' w'') d D w'') (h2 : Only (Newer A w w') w' w'') : DgX (Newer A w w'') d D w'' := by
 have z1 := ho.size
 have z2 := h2.size
 refine h.grow (fun g hg => ?_) fun g hg => ?_
 · rcases hg with (e | e) | e
   · exact .inl e
   · exact .inr ⟨e.1, by omega⟩
   · exact .inr ⟨by omega, e.2⟩
 · rcases hg with e | e
   · have := hl g e
     omega
   · exact e.2
theorem DgX.fresh (h : DgX A d D w) (hs : Still w w') : DgX (Newer A w w') d D w' := by
 have z := hs.size
 have hl := h.lt
 exact (h.still hs).grow (fun _ hg => .inl hg) fun g hg => hg.elim (fun e => by have := hl g e; omega) fun e => e.2
end
def clN (D : PDk) (at_ : Nat) (S : List Int) : Nat → Int × PDk × Bool
 | 0 => (0, D, false)
 | i + 1 => if (clN D at_ S i).1 ≠ 0 then clN D at_ S i else if (clN D at_ S i).2.1.T[at_ + i]? = some (tileB S i) then clN D at_ S i else
  ((((clN D at_ S i).2.1.laid (at_ + i) (tileB S i)).done).1, (((clN D at_ S i).2.1.laid (at_ + i) (tileB S i)).done).2, true)
def PDk.clean (D : PDk) (at_ : Nat) (S : List Int) (n : Nat) : Int × PDk :=
 if (clN D at_ S n).1 ≠ 0 then ((clN D at_ S n).1, (clN D at_ S n).2.1) else if (clN D at_ S n).2.2 = true then (clN D at_ S n).2.1.sync else (0, (clN D at_ S n).2.1)
theorem clN_err {D : PDk} {at_ : Nat} {S : List Int} {i : Nat} (h : (clN D at_ S i).1 ≠ 0) : ∀ j, clN D at_ S (i + j) = clN D at_ S i
 | 0 => rfl
 | j + 1 => by
  have ih := clN_err h j
  show (if (clN D at_ S (i + j)).1 ≠ 0 then clN D at_ S (i + j) else _) = _
  rw [if_pos (by rw [ih]; exact h)]
  exact ih
theorem PDk.done_ok {D : PDk} (hf : D.fine) (hq : D.dead = false) (h : D.done.1 = 0) : D.done.2.fine ∧ D.done.2.dead = false ∧ D.done.2.T = D.T ∧ D.done.2.was = D.was := by
 unfold PDk.done at h ⊢
 cases hp : D.plan with
 | none =>
  rw [hp] at h
  exact ⟨hf, hq, rfl, rfl⟩
 | some p =>
  obtain ⟨k, mask⟩ := p
  rw [hp] at h
  dsimp only at h ⊢
  split at h
  · cases h
  · rename_i hk
    rw [if_neg hk]
    refine ⟨fun k' mask' he => ?_, hq, rfl, rfl⟩
    have e : D.less.plan = some (k - 1, mask) := by unfold PDk.less; rw [hp]; rfl
    rw [e] at he
    injection he with he
    injection he with e1 e2
    have := hf k mask hp
    omega
theorem PDk.laid_fine {D : PDk} {i : Nat} {l : List Int} (hf : D.fine) : (D.laid i l).fine := hf
theorem PDk.done_T {D : PDk} : D.done.2.T.length = D.T.length := by
 unfold PDk.done
 cases hp : D.plan with
 | none => rfl
 | some p =>
  dsimp only
  split
  · exact crashN_length
  · rfl
theorem clN_len {D : PDk} {at_ : Nat} {S : List Int} : ∀ (i : Nat), (clN D at_ S i).2.1.T.length = D.T.length
 | 0 => rfl
 | i + 1 => by
  unfold clN
  split
  · exact clN_len i
  · split
    · exact clN_len i
    · show (((clN D at_ S i).2.1.laid (at_ + i) (tileB S i)).done).2.T.length = _
      rw [PDk.done_T]
      show ((clN D at_ S i).2.1.T.set _ _).length = _
      rw [List.length_set]
      exact clN_len i
theorem clN_ok {D : PDk} {at_ : Nat} {S : List Int} (hf : D.fine) (hq : D.dead = false) : ∀ (i : Nat), (clN D at_ S i).1 = 0 → (clN D at_ S i).2.1.fine ∧ (clN D at_ S i).2.1.dead = false
 | 0, _ => ⟨hf, hq⟩
 | i + 1, h => by
  unfold clN at h ⊢
  split at h
  · rename_i he
    exact absurd h he
  · rename_i he
    have he : (clN D at_ S i).1 = 0 := by
     by_cases hx : (clN D at_ S i).1 = 0
     · exact hx
     · exact absurd hx he
    have ih := clN_ok hf hq i he
    rw [if_neg (by rw [he]; decide)]
    split at h
    · rename_i hx
      rw [if_pos hx]
      exact ih
    · rename_i hx
      rw [if_neg hx]
      have := PDk.done_ok (D := (clN D at_ S i).2.1.laid (at_ + i) (tileB S i)) ih.1 ih.2 h
      exact ⟨this.1, this.2.1⟩
def ClPostG (A : Nat → Prop) (w : World) (d : Nat) (r : Int × PDk) (e : Ending) (w' : World) : Prop := e = .returned (.int .i64 r.1) ∧ DgX (Newer A w w') d r.2 w' ∧ Only A w w'
def ClRelG (A : Nat → Prop) (w : World) (d : Nat) (D : PDk) (wr : World) : Prop := DgX (Newer A w wr) d D wr ∧ Only A w wr
set_option maxHeartbeats 4000000 in
set_option maxRecDepth 100000 in
theorem clean_g {A : Nat → Prop} (w : World) (t d at_ n : Nat) (S : List Int) (sv : Value) (c st : Nat) (D : PDk) (h : TlAt w t d at_ n S sv c st) (hd : DgX A d D w) (hsep : ¬ A t ∧ ∀ g, sv.ownBlock = some g → ¬ A g) (hf : D.fine) (hq : D.dead = false) (hT : D.T.length ≤ 2000) (hn : at_ + n ≤ D.T.length) (hb : ∀ i l, (clN D at_ S i).2.1.T[at_ + i]? = some l → Byt l) (hS : S.length ≤ 1000000) :
 Calls Tryz.prog 37 #[.pointer (some ⟨t, 0, none⟩)] w (ClPostG A w d (D.clean at_ S n)) := by
 have H := Lib.hid h
 have HSEP := Lib.hid hsep
 have HB := Lib.hid (And.intro hT (And.intro hn (And.intro hb hS)))
 have HF := Lib.hid (And.intro hf hq)
 have HAL := Lib.hid hd.lt
 have c2 : w.cell? ⟨t, 2, none⟩ = some (.int .i64 n) := h.cells.cell 2
 have SS := Lib.hid (fun w' (ho : Only A w w') => show w'.cell? ⟨t, 0, none⟩ = some (.pointer (some ⟨d, 0, none⟩)) ∧ w'.cell? ⟨t, 1, none⟩ = some (.int .i64 at_) from ⟨(h.only ho hsep.1 hsep.2).cells.cell 0, (h.only ho hsep.1 hsep.2).cells.cell 1⟩)
 have H0 := Lib.hid (show ClRelG A w d (clN D at_ S 0).2.1 w from ⟨hd.fresh (Still.refl w), Only.refl _ _⟩)
 clear h hd hT hn hb hS hsep hf hq
 go_enter Tryz.func37, Tryz.ntmps37
 go_wp2_with fail
 go_loopw [3, 13] (fun s3 s13 wr => ∃ (i : Nat), s13 = .int .i64 i ∧ s3 = .bool (clN D at_ S i).2.2 ∧ i ≤ n ∧ (clN D at_ S i).1 = 0 ∧ ClRelG A w d (clN D at_ S i).2.1 wr) (fun _ s13 _ => n - (intOf s13).toNat)
 case atStart => exact ⟨0, rfl, rfl, Nat.zero_le _, rfl, H0.out⟩
 case round =>
  obtain ⟨i, rfl, rfl, hin, hce, hr⟩ := hrel
  have HR := Lib.hid hr
  have HCE := Lib.hid hce
  obtain ⟨hd1, ho1⟩ := hr
  obtain ⟨c0, c1⟩ := SS.out _ ho1
  have hok := clN_ok HF.out.1 HF.out.2 i hce
  have hlen := clN_len (D := D) (at_ := at_) (S := S) i
  have hbi := HB.out.2.2.1 i
  have hce1 : clN D at_ S (i + 1) = (if (clN D at_ S i).2.1.T[at_ + i]? = some (tileB S i) then clN D at_ S i else ((((clN D at_ S i).2.1.laid (at_ + i) (tileB S i)).done).1, (((clN D at_ S i).2.1.laid (at_ + i) (tileB S i)).done).2, true)) := by
   show (if (clN D at_ S i).1 ≠ 0 then _ else _) = _
   rw [if_neg (by rw [hce]; decide)]
  have HX := Lib.hid (And.intro hok (And.intro hlen (And.intro hbi hce1)))
  have hfin : i = n → D.clean at_ S n = if (clN D at_ S i).2.2 = true then (clN D at_ S i).2.1.sync else (0, (clN D at_ S i).2.1) := fun e => by
   subst e
   unfold PDk.clean
   rw [if_neg (by rw [hce]; decide)]
  have HFIN := Lib.hid hfin
  obtain ⟨Ci, hCi⟩ : ∃ C, C = clN D at_ S i := ⟨_, rfl⟩
  have HCI := Lib.hid hCi
  rw [← hCi] at HR HCE HX HFIN hd1
  rw [← hCi]
  obtain ⟨ei, Di, bi⟩ := Ci
  clear hCi hok hlen hbi hce1 hfin hce
  dsimp only at HR HCE HX HFIN hd1
  have HD1 := Lib.hid hd1
  obtain ⟨tv, mb, vs, V, pp, hda⟩ := hd1
  have HDA := Lib.hid hda
  clear hda
  by_cases hi : i < n
  · obtain ⟨l, hl⟩ : ∃ l, Di.T[at_ + i]? = some l := ⟨_, List.getElem?_eq_getElem (by have := HB.out.2.1; have := HX.out.2.1; omega)⟩
    have HL := Lib.hid hl
    have HRD := Lib.hid (fun w' (hs : Still wr w') => show Calls Tryz.prog 31 #[.pointer (some ⟨d, 0, none⟩), .int .i64 ((at_ : Int) + (i : Int))] w' (fun e w'' => ∃ v, e = .returned (.tuple #[v, .int .i64 0]) ∧ Vec w'' 1 v 64 (bc l) ∧ Still w' w'' ∧ ∀ g, v.ownBlock = some g → w'.heap.size ≤ g ∧ g < w''.heap.size) from by
     have := read_at (HDA.out.still hs) HX.out.1.2 (at_ + i) l hl
     rwa [Int.natCast_add] at this)
    have HLB := Lib.hid (show Byt l from HX.out.2.2.1 l hl)
    have b1 : decide ((i : Int) < (n : Int)) = true := by simp; omega
    have b2 : decide (i < n) = true := by simp; omega
    have u9 : IntKind.i64.wrap ((i : Int) + 1) = (i : Int) + 1 := IntWalk.i64_in _ (by have := HB.out; omega)
    have u8 : IntKind.i64.wrap ((at_ : Int) + (i : Int)) = (at_ : Int) + (i : Int) := IntWalk.i64_in _ (by have := HB.out; omega)
    have HS := Lib.hid (Still.refl wr)
    have SSR := Lib.hid (fun w' (hs : Still wr w') => SS.out w' (HR.out.2.trans (hs.mono fun _ e => e.elim)))
    have HIN := Lib.hid hin
    clear hl c2 hin
    go_wp2_with fail
    go_region_held3 (fun w' => w'.cell? ⟨t, 0, none⟩ = some (.pointer (some ⟨d, 0, none⟩)) ∧ w'.cell? ⟨t, 1, none⟩ = some (.int .i64 at_)) (first | exact ⟨c0, c1⟩ | exact SSR.out _ (by assumption))
     (first | (go_at_call 31; (with_reducible refine (HRD.out _ HS.out.drew).mono ?_); rintro e w3 ⟨v3, rfl, hv3, hs3, hg3⟩; have hs3' : Still wr w3 := HS.out.drew.trans hs3))
    have HT3 := Lib.hid (show TlAt w3 t d at_ n S sv c st from (H.out.only HR.out.2 HSEP.out.1 HSEP.out.2).still hs3')
    have hTI := tile_any w3 t d at_ n S sv c st i HT3.out (by have := HB.out; omega) HB.out.2.2.2
    have HV3 := Lib.hid (And.intro hv3 (And.intro hs3' hg3))
    obtain ⟨va, vc, rfl⟩ := hv3.form'
    clear hv3 hs3 hg3 hs3'
    go_wp2_with fail
    refine hTI.mono ?_
    rintro e w4 ⟨v4, rfl, hv4, hb4, hg4⟩
    have hs4 : Still w3 w4 := Only.ofBelow hb4
    have HV4 := Lib.hid (And.intro hv4 (And.intro hs4 hg4))
    have hEQ := equal_any w4 _ v4 64 64 l (tileB S i) (Vec.sl0 (HV3.out.1.only hs4 fun _ _ e => e) (by omega)) (Vec.sl0 hv4 (by omega)) HLB.out (tileB_byt H.out.byt)
    have HOO := Lib.hid (show Still wr w4 from HV3.out.2.1.trans hs4)
    obtain ⟨wa, wc, rfl⟩ := hv4.form'
    clear hv4 hb4 hg4 hs4 hTI
    go_wp2_with fail
    refine hEQ.mono ?_
    rintro e w5 ⟨rfl, rfl⟩
    clear hEQ
    by_cases hlt : l = tileB S i
    · have q : decide (l = tileB S i) = true := decide_eq_true hlt
      rw [q]
      have HN := Lib.hid (show (.bool bi : Value) = .bool (clN D at_ S (i + 1)).2.2 ∧ (clN D at_ S (i + 1)).1 = 0 ∧ ClRelG A w d (clN D at_ S (i + 1)).2.1 w5 from by
       have e := HX.out.2.2.2
       rw [if_pos (by rw [HL.out, hlt])] at e
       rw [e]
       refine ⟨rfl, HCE.out, ?_, HR.out.2.trans (HOO.out.mono fun _ e => e.elim)⟩
       have hz := HOO.out.size
       refine (HD1.out.still HOO.out).grow (fun g hg => hg.imp id fun e => ⟨e.1, by omega⟩) fun g hg => ?_
       rcases hg with e | e
       · have := HD1.out.lt g (.inl e)
         omega
       · exact e.2)
      clear hlt q
      go_wp2_with fail
      go_roundw
      case rel => exact ⟨i + 1, by go_num, HN.out.1, by omega, HN.out.2.1, HN.out.2.2⟩
      case measure => simp [intOf]; omega
    · have q : decide (l = tileB S i) = false := decide_eq_false hlt
      rw [q]
      have HC1 := Lib.hid (show clN D at_ S (i + 1) = (((Di.laid (at_ + i) (tileB S i)).done).1, ((Di.laid (at_ + i) (tileB S i)).done).2, true) from by
       have e := HX.out.2.2.2
       rw [if_neg (by rw [HL.out]; exact fun e => hlt (Option.some.inj e))] at e
       exact e)
      obtain ⟨R, hR⟩ : ∃ R, R = (Di.laid (at_ + i) (tileB S i)).done := ⟨_, rfl⟩
      rw [← hR] at HC1
      have HWR := Lib.hid (fun w' (hs : Still wr w') (hs4 : Still w5 w') => show Calls Tryz.prog 14 #[.pointer (some ⟨d, 0, none⟩), .int .i64 ((at_ : Int) + (i : Int)), .slice wa 64 wc] w' (DgPostN (Newer A w wr) w' d R) from by
       have hdk := HDA.out.still hs
       have hln := HX.out.2.1
       have := write_at hdk HX.out.1.2 HX.out.1.1 (at_ + i) (tileB S i) (.slice wa 64 wc) (by have := HB.out.2.1; omega) (by have := HB.out.1; omega) (HV4.out.1.only hs4 fun _ _ e => e).reads (fun g hg e => by
        have h1 := (HV4.out.2.2 g hg).1
        have h2 := HDA.out.lt g (HDA.out.mu g e)
        have h3 := HV3.out.2.1.size
        omega)
       rw [hR]
       rwa [Int.natCast_add] at this)
      have HFI := Lib.hid (fun w' w'' e (hs : Still wr w') (hp : DgPostN (Newer A w wr) w' d R e w'') => show e = .returned (.int .i64 R.1) ∧ ClRelG A w d R.2 w'' from by
       obtain ⟨h1, h2, h3⟩ := hp
       have hz := hs.size
       have ho3 : Only (Newer A w wr) wr w'' := (hs.mono fun _ e => e.elim).trans h3
       refine ⟨h1, DgX.next HR.out.2 HAL.out (h2.grow (fun g hg => hg.imp id fun e => ⟨by omega, e.2⟩) fun g hg => ?_) ho3, only_newer HR.out.2 ho3⟩
       have hzz := ho3.size
       rcases hg with e | e
       · have := HD1.out.lt g e
         omega
       · exact e.2)
      obtain ⟨k0, k1⟩ := SS.out _ (HR.out.2.trans (HOO.out.mono fun _ e => e.elim))
      have HSO := Lib.hid (fun w'' (hc : ClRelG A w d R.2 w'') => SS.out w'' hc.2)
      clear hlt q c0 c1 hR
      obtain ⟨r1, r2⟩ := R
      dsimp only at HC1 HFI HSO
      go_wp2_with fail
      go_region_held3 (fun w' => w'.cell? ⟨t, 0, none⟩ = some (.pointer (some ⟨d, 0, none⟩)) ∧ w'.cell? ⟨t, 1, none⟩ = some (.int .i64 at_)) (first | exact ⟨k0, k1⟩ | exact HSO.out _ (by assumption))
       (first | (go_at_call 14; (with_reducible refine (HWR.out _ (HOO.out.trans (still_drew _)) (still_drew _)).mono ?_); rintro e w6 hp6; obtain ⟨rfl, hcl⟩ := HFI.out _ _ _ (HOO.out.trans (still_drew _)) hp6; clear hp6))
      have HN := Lib.hid hcl
      clear hcl
      by_cases hr0 : r1 = 0
      · subst hr0
        have HM := Lib.hid (show (.bool true : Value) = .bool (clN D at_ S (i + 1)).2.2 ∧ (clN D at_ S (i + 1)).1 = 0 ∧ ClRelG A w d (clN D at_ S (i + 1)).2.1 w6 from by
         rw [HC1.out]
         exact ⟨rfl, rfl, HN.out⟩)
        go_wp2_with fail
        go_roundw
        case rel => exact ⟨i + 1, by go_num, HM.out.1, by omega, HM.out.2.1, HM.out.2.2⟩
        case measure => simp [intOf]; omega
      · have qe : (r1 == 0) = false := by rw [beq_eq_false_iff_ne]; exact hr0
        have F := Lib.hid (show ClPostG A w d (D.clean at_ S n) (.returned (.int .i64 r1)) w6 from by
         have e1 : (clN D at_ S (i + 1)).1 ≠ 0 := by rw [HC1.out]; exact hr0
         have e2 := clN_err e1 (n - (i + 1))
         rw [show i + 1 + (n - (i + 1)) = n by omega] at e2
         have e3 : D.clean at_ S n = (r1, r2) := by
          unfold PDk.clean
          rw [e2, if_pos e1, HC1.out]
         rw [e3]
         exact ⟨rfl, HN.out⟩)
        have hrn : ¬ r1 = 0 := hr0
        clear hr0
        go_wp2_with fail
        go_ret
        exact F.out
  · have hge : i = n := by omega
    have HGE := Lib.hid (HFIN.out hge)
    subst hge
    have b1 : decide ((i : Int) < (i : Int)) = false := by simp
    cases bi with
    | false =>
     have F := Lib.hid (show ClPostG A w d (D.clean at_ S i) (.returned (.int .i64 0)) wr from by
      rw [HGE.out]
      exact ⟨rfl, HR.out⟩)
     go_wp2_with fail
     go_ret
     exact F.out
    | true =>
     have hSY := sync_at HDA.out HX.out.1.1 (by have := HB.out.1; have := HX.out.2.1; omega)
     have HFS := Lib.hid (fun e w'' (hp : SyPostG (Newer A w wr) wr d Di.sync e w'') => show ClPostG A w d (D.clean at_ S i) e w'' from by
      obtain ⟨h1, h2, h3⟩ := hp
      rw [HGE.out]
      have hz := h3.size
      refine ⟨h1, h2.grow (fun g hg => hg.imp id fun e => ⟨e.1, by omega⟩) fun g hg => ?_, only_newer HR.out.2 h3⟩
      rcases hg with e | e
      · have := HD1.out.lt g (.inl e)
        omega
      · exact e.2)
     go_wp2_with fail
     refine hSY.mono ?_
     intro e w6 hp
     have F := Lib.hid (HFS.out _ _ hp)
     obtain ⟨rfl, -⟩ := hp
     clear hSY
     go_wp2_with fail
     go_ret
     exact F.out
end Go.Proofs.YtlcfoeikamkpmaaGreat

namespace Go.Proofs.YtlcfoeikamkpmaaGreat
open Go.RowKit Go.Wh Go.Maps

def Cs (c : Nat → Nat) (i : Nat) : Nat → Prop := fun g => c g = i
def Low (c : Nat → Nat) (w : World) : Prop := ∀ g, c g ≠ 0 → g < w.heap.size
structure Stp (X K : Nat → Prop) (c c' : Nat → Nat) (w w' : World) : Prop where
 only : Only (fun g => X (c g)) w w'
 old : ∀ g, g < w.heap.size → c' g = c g
 new : ∀ g, w.heap.size ≤ g → c' g = 0 ∨ K (c' g)
 low : Low c' w'
section
variable {X Y K L : Nat → Prop} {c c' c'' : Nat → Nat} {w w' w'' : World} {i j : Nat}
theorem Stp.refl (h : Low c w) : Stp X K c c w w := ⟨Only.refl _ _, fun _ _ => rfl, fun g hg => .inl (Classical.byContradiction fun e => by have := h g e; omega), h⟩
theorem Stp.mono (h : Stp X K c c' w w') (hx : ∀ i, X i → Y i) (hk : ∀ i, K i → L i) : Stp Y L c c' w w' := ⟨h.only.mono fun _ hg => hx _ hg, h.old, fun g hg => (h.new g hg).imp id (hk _), h.low⟩
theorem Stp.trans (h : Stp X K c c' w w') (k : Stp X K c' c'' w' w'') : Stp X K c c'' w w'' := by
 have hz := h.only.size
 refine ⟨h.only.andThen k.only fun g hg e => by rw [← h.old g hg]; exact e, fun g hg => (k.old g (by omega)).trans (h.old g hg), fun g hg => ?_, k.low⟩
 rcases Nat.lt_or_ge g w'.heap.size with h1 | h1
 · rw [k.old g h1]
   exact h.new g hg
 · exact k.new g h1
theorem Stp.still (h : Low c w) (hs : Still w w') : Stp X K c c w w' := by
 refine ⟨hs.mono fun _ e => e.elim, fun _ _ => rfl, fun g hg => .inl (Classical.byContradiction fun e => by have := h g e; omega), fun g hg => ?_⟩
 have := h g hg
 have := hs.size
 omega
theorem Stp.own (h : Low c w) (ho : Only (Cs c i) w w') (hx : X i) : Stp X K c c w w' := by
 refine ⟨ho.mono fun g hg => ?_, fun _ _ => rfl, fun g hg => .inl (Classical.byContradiction fun e => by have := h g e; omega), fun g hg => ?_⟩
 · have e : c g = i := hg
   rw [e]
   exact hx
 · have := h g hg
   have := ho.size
   omega
def recol (c : Nat → Nat) (w w' : World) (i : Nat) : Nat → Nat := fun g => if w.heap.size ≤ g ∧ g < w'.heap.size then i else c g
theorem recol_new (h : Low c w) (hi : i ≠ 0) : Cs (recol c w w' i) i = Newer (Cs c i) w w' := by
 funext g
 apply propext
 unfold Cs recol Newer
 constructor
 · intro e
   split at e
   · rename_i h1
     exact .inr h1
   · exact .inl e
 · intro e
   rcases e with e | e
   · rw [if_neg (fun h1 => by have := h g (by omega); omega)]
     exact e
   · rw [if_pos e]
theorem recol_old (h : Low c w) (hj : j ≠ 0) (hij : j ≠ i) : Cs (recol c w w' i) j = Cs c j := by
 funext g
 apply propext
 unfold Cs recol
 constructor
 · intro e
   split at e
   · exact absurd e.symm hij
   · exact e
 · intro e
   rw [if_neg (fun h1 => by have := h g (by omega); omega)]
   exact e
theorem Stp.newer (h : Low c w) (ho : Only (Cs c i) w w') (hx : X i) (hk : K i) : Stp X K c (recol c w w' i) w w' := by
 have hz := ho.size
 refine ⟨ho.mono fun g hg => ?_, fun g hg => ?_, fun g hg => ?_, fun g hg => ?_⟩
 · have e : c g = i := hg
   rw [e]
   exact hx
 · unfold recol
   rw [if_neg (by omega)]
 · unfold recol
   split
   · exact .inr hk
   · exact .inl (Classical.byContradiction fun e => by have := h g e; omega)
 · unfold recol at hg
   split at hg
   · rename_i h1
     exact h1.2
   · have := h g hg
     omega
theorem Stp.newX (h : Low c w) (ho : Only (fun g => X (c g)) w w') (hk : K i) : Stp X K c (recol c w w' i) w w' := by
 have hz := ho.size
 refine ⟨ho, fun g hg => ?_, fun g hg => ?_, fun g hg => ?_⟩
 · unfold recol
   rw [if_neg (by omega)]
 · unfold recol
   split
   · exact .inr hk
   · exact .inl (Classical.byContradiction fun e => by have := h g e; omega)
 · unfold recol at hg
   split at hg
   · rename_i h1
     exact h1.2
   · have := h g hg
     omega
theorem Stp.owns (h : Low c w) (ho : Only (fun g => X (c g)) w w') : Stp X K c c w w' :=
 ⟨ho, fun _ _ => rfl, fun g hg => .inl (Classical.byContradiction fun e => by have := h g e; omega), fun g hg => by have := h g hg; have := ho.size; omega⟩
theorem Stp.scratch (h : Stp X K c c' w w') {b : Nat} (ho : Only (fun g => g = b) w' w'') (hb : w.heap.size ≤ b) : Stp X K c c' w w'' :=
 ⟨h.only.andThen ho fun g hg e => by have e' : g = b := e; omega, h.old, h.new, fun g hg => Nat.lt_of_lt_of_le (h.low g hg) ho.size⟩
noncomputable def paint (c : Nat → Nat) (N : Nat → Prop) (i : Nat) : Nat → Nat := fun g => open Classical in if N g then i else c g
theorem paint_in {N : Nat → Prop} {g : Nat} (h : N g) : paint c N i g = i := if_pos h
theorem paint_out {N : Nat → Prop} {g : Nat} (h : ¬ N g) : paint c N i g = c g := if_neg h
theorem Stp.paint {N : Nat → Prop} (h : Stp X K c c' w w') (hN : ∀ g, N g → w.heap.size ≤ g ∧ g < w'.heap.size) (hk : K i) : Stp X K c (paint c' N i) w w' := by
 refine ⟨h.only, fun g hg => ?_, fun g hg => ?_, fun g hg => ?_⟩
 · rw [paint_out (fun e => by have := hN g e; omega)]
   exact h.old g hg
 · by_cases e : N g
   · rw [paint_in e]
     exact .inr hk
   · rw [paint_out e]
     exact h.new g hg
 · by_cases e : N g
   · exact (hN g e).2
   · rw [paint_out e] at hg
     exact h.low g hg
theorem Stp.same (h : Stp X K c c' w w') (hl : Low c w) (hj : j ≠ 0) (hk : ¬ K j) : Cs c' j = Cs c j := by
 funext g
 apply propext
 unfold Cs
 rcases Nat.lt_or_ge g w.heap.size with h1 | h1
 · rw [h.old g h1]
 · constructor
   · intro e
     rcases h.new g h1 with h2 | h2
     · omega
     · rw [e] at h2
       exact absurd h2 hk
   · intro e
     have := hl g (by omega)
     omega
theorem Stp.sub (h : Stp X K c c' w w') (hl : Low c w) (hj : j ≠ 0) : ∀ g, Cs c j g → Cs c' j g := fun g hg => by
 have e : c g = j := hg
 have := hl g (by omega)
 exact (h.old g this).trans e
theorem Stp.off (_ : Stp X K c c' w w') (hx : ¬ X j) : ∀ g, Cs c j g → ¬ X (c g) := fun g hg e => by
 have e' : c g = j := hg
 rw [e'] at e
 exact hx e
end
end Go.Proofs.YtlcfoeikamkpmaaGreat

namespace Go.Proofs.YtlcfoeikamkpmaaGreat
open Go.RowKit Go.Wh Go.Maps

def PDk.arm (D : PDk) (k : Int) (mask : List Int) : PDk := { D with plan := if 0 ≤ k then some (k, mask) else none }
section
variable {A X : Nat → Prop} {w w' : World} {d mb : Nat} {D : PDk} {tv : Value} {vs : List Value} {V : Int → Option Value} {pp : Option Nat}
theorem DgAt.unplan (h : DgAt A w d D tv mb vs V pp) : DgAt A (w.setCell ⟨d, 3, none⟩ (.pointer none)) d { D with plan := none } tv mb vs V none :=
 h.cellD rfl rfl rfl (fun _ _ e => by cases e) (fun _ => rfl) (fun _ e => by cases e) fun _ _ e => by cases e
theorem DgAt.replan {b : Nat} {k : Int} {mask : List Int} {mv : Value} (h : DgAt A w d { D with plan := none } tv mb vs V none) (hb : A b) (hbm : b ≠ d ∧ b ≠ mb ∧ tv.ownBlock ≠ some b) (hbc : ∀ v ∈ vs, v.ownBlock ≠ some b) (hbw : ∀ x v, V x = some v → v.ownBlock ≠ some b) (hc : cellsAt w b [.int .i64 k, mv])
 (hm : Sl w (fun g => A g ∧ ¬ Mu d mb tv (some b) g) 1 mv mask.length (bc mask)) (hby : Byt mask) : DgAt A (w.setCell ⟨d, 3, none⟩ (.pointer (some ⟨b, 0, none⟩))) d { D with plan := some (k, mask) } tv mb vs V (some b) := by
 have ho := setCell_only w ⟨d, 3, none⟩ (.pointer (some ⟨b, 0, none⟩))
 have hz : (w.setCell ⟨d, 3, none⟩ (.pointer (some ⟨b, 0, none⟩))).heap.size = w.heap.size := by simp [World.setCell]
 have hmu : ∀ g, ¬ Mu d mb tv none g → ¬ g = d := fun g hn e => hn (.inl e)
 have hmm : ∀ g, Mu d mb tv (some b) g → Mu d mb tv none g ∨ g = b := fun g hg => by
  rcases hg with e | e | e | e
  · exact .inl (.inl e)
  · exact .inl (.inr (.inl e))
  · exact .inl (.inr (.inr (.inl e)))
  · exact .inr (Option.some.inj e).symm
 exact {
  cells := by
   have := h.cells.setCell 3 (.pointer (some ⟨b, 0, none⟩))
   exact this
  t := h.t.only ho fun g hg e => (h.td g hg).1 e
  ins := fun j l' hj => by
   obtain ⟨v, hv, hr⟩ := h.ins j l' hj
   exact ⟨v, hv, Reads.only hr ho fun g hg => hmu g ((h.ct v (List.mem_of_getElem? hv)).2 g hg).2⟩
  m := h.m.block (ho.block mb h.m.lt fun e => h.dm (show mb = d from e).symm)
  wi := fun x v hv => by
   obtain ⟨i, l, k1, k2, k3, k4⟩ := h.wi x v hv
   exact ⟨i, l, k1, k2, k3, Reads.only k4 ho fun g hg => hmu g ((h.cw x v hv).2 g hg).2⟩
  wn := h.wn
  pl := fun k' mask' hp => by
   injection hp with hp
   injection hp with e1 e2
   subst e1 e2
   exact ⟨b, mv, rfl, hc.only ho hbm.1, hm.only ho fun g hg e => hg.2 (.inl e), hby⟩
  pn := fun hn => by cases hn
  dm := h.dm
  td := h.td
  pd := fun g hg => by
   injection hg with hg
   subst hg
   exact hbm
  mu := fun g hg => (hmm g hg).elim (h.mu g) fun e => e ▸ hb
  ct := fun v hv => ⟨(h.ct v hv).1, fun g hg => ⟨((h.ct v hv).2 g hg).1, fun e => (hmm g e).elim ((h.ct v hv).2 g hg).2 fun e => hbc v hv (e ▸ hg)⟩⟩
  cw := fun x v hv => ⟨(h.cw x v hv).1, fun g hg => ⟨((h.cw x v hv).2 g hg).1, fun e => (hmm g e).elim ((h.cw x v hv).2 g hg).2 fun e => hbw x v hv (e ▸ hg)⟩⟩
  lt := fun g hg => by rw [hz]; exact h.lt g hg }
theorem reads_only0 {X : Nat → Prop} {w w' : World} {v : Value} {n : Nat} {xs : List Value} (h : Reads w 1 v n xs) (ho : Only X w w') (hx : 0 < n → ∀ g, v.ownBlock = some g → ¬ X g) : Reads w' 1 v n xs := by
 rcases Nat.eq_zero_or_pos n with rfl | hp
 · have h0 : xs = [] := by
    have := h.1
    rw [Nat.zero_mul, List.length_eq_zero_iff] at this
    exact this
   refine ⟨h.1, ?_⟩
   rcases h.2 with h1 | ⟨a, c, e, -⟩
   · exact .inl h1
   · exact .inr ⟨a, c, e, fun j u hj => by rw [h0] at hj; cases hj⟩
 · exact Reads.only h ho (hx hp)
def ArPost (A : Nat → Prop) (w : World) (d : Nat) (D' : PDk) (e : Ending) (w' : World) : Prop := e = .returned (.tuple #[]) ∧ DgX (Newer A w w') d D' w' ∧ Only A w w'
set_option maxHeartbeats 2000000 in
set_option maxRecDepth 100000 in
theorem arm_at (h : DgAt A w d D tv mb vs V pp) (k : Int) (ma : Option Addr) (m mc : Nat) (mask : List Int) (hm : Reads w 1 (.slice ma m mc) m (bc mask)) (hA : 0 < m → ∀ g, (Value.slice ma m mc).ownBlock = some g → ¬ A g) (hb : Byt mask) (h10 : m ≤ 10000) :
 Calls Tryz.prog 27 #[.pointer (some ⟨d, 0, none⟩), .int .i64 k, .slice ma m mc] w (ArPost A w d (D.arm k mask)) := by
 have hml : mask.length = m := by have := hm.1; rw [bc_length] at this; omega
 have c3 : w.cell? ⟨d, 3, none⟩ = some (ptrV pp) := h.cells.cell 3
 have f3 := h.cells.free 3
 have h1 := h.unplan
 have o1 := setCell_only w ⟨d, 3, none⟩ (.pointer none)
 have z1 : (w.setCell ⟨d, 3, none⟩ (.pointer none)).heap.size = w.heap.size := by simp [World.setCell]
 have hAd : A d := h.mu d (.inl rfl)
 have oA : Only A w (w.setCell ⟨d, 3, none⟩ (.pointer none)) := o1.mono fun b e => by rw [show b = d from e]; exact hAd
 have HAL := Lib.hid h.lt
 by_cases hk : 0 ≤ k
 · have q : decide (0 ≤ k) = true := decide_eq_true hk
   have HD := Lib.hid (show D.arm k mask = { D with plan := some (k, mask) } from by unfold PDk.arm; rw [if_pos hk])
   have HCL := Lib.hid (clone_b (.slice ma m mc) m (bc mask) (w.setCell ⟨d, 3, none⟩ (.pointer none)) (reads_only0 hm o1 fun h0 g hg e => hA h0 g hg (by rw [show g = d from e]; exact hAd)) (bc_one mask) h10)
   have H1 := Lib.hid (And.intro h1 (And.intro z1 (And.intro oA (And.intro hb hml))))
   clear h h1 o1 z1 oA hm hA hb hml hk
   go_enter Tryz.func27, Tryz.ntmps27
   go_wp2_with fail
   refine HCL.out.mono ?_
   rintro e w2 ⟨v2, rfl, hv2, hb2, hg2⟩
   obtain ⟨va, vc, rfl⟩ := hv2.form'
   have hs2 : Still (w.setCell ⟨d, 3, none⟩ (.pointer none)) w2 := Only.ofBelow hb2
   have k2 := H1.out.1.still hs2
   have k2c := k2.cells.alloc (.cells #[.int .i64 k, .slice va m vc] 96)
   have g3 : (w2.alloc (.cells #[.int .i64 k, .slice va m vc] 96)).cell? ⟨d, 3, none⟩ = some (.pointer none) := k2c.cell 3
   have g3f : (w2.alloc (.cells #[.int .i64 k, .slice va m vc] 96)).frozen? ⟨d, 3, none⟩ = false := k2c.free 3
   have F := Lib.hid (show ArPost A w d (D.arm k mask) (.returned (.tuple #[])) ((w2.alloc (.cells #[.int .i64 k, .slice va m vc] 96)).setCell ⟨d, 3, none⟩ (.pointer (some ⟨w2.heap.size, 0, none⟩))) from by
    obtain ⟨h1, z1, oA, hb, hml⟩ := H1.out
    have hsz := hs2.size
    have hst : Still w2 (w2.alloc (.cells #[.int .i64 k, .slice va m vc] 96)) := (Still.refl w2).alloc _
    have hzz : (w2.alloc (.cells #[.int .i64 k, .slice va m vc] 96)).heap.size = w2.heap.size + 1 := by simp
    have hzf : ((w2.alloc (.cells #[.int .i64 k, .slice va m vc] 96)).setCell ⟨d, 3, none⟩ (.pointer (some ⟨w2.heap.size, 0, none⟩))).heap.size = w2.heap.size + 1 := by rw [← hzz]; simp [World.setCell]
    have hAl : ∀ g, A g → g < w.heap.size := HAL.out
    have hgr : DgAt (Newer A w (w2.alloc (.cells #[.int .i64 k, .slice va m vc] 96))) (w2.alloc (.cells #[.int .i64 k, .slice va m vc] 96)) d { D with plan := none } tv mb vs V none :=
     (k2.still hst).grow (fun _ hg => .inl hg) fun g hg => hg.elim (fun e => by have := hAl g e; omega) fun e => e.2
    have hne : ∀ g, A g → g ≠ w2.heap.size := fun g hg e => by have := hAl g hg; omega
    have hcn := cellsAt_new w2 [.int .i64 k, .slice va m vc] 96
    have hsl : Sl (w2.alloc (.cells #[.int .i64 k, .slice va m vc] 96)) (fun g => Newer A w (w2.alloc (.cells #[.int .i64 k, .slice va m vc] 96)) g ∧ ¬ Mu d mb tv (some w2.heap.size) g) 1 (.slice va m vc) mask.length (bc mask) := by
     rw [hml]
     refine Sl.still (Vec.sl hv2 fun g hg => ?_) hst
     have e1 := hg2 g hg
     refine ⟨⟨.inr ⟨by omega, by omega⟩, fun e => ?_⟩, e1.2⟩
     rcases e with e | e | e | e
     · have := hAl g (by rw [e]; exact hAd)
       omega
     · have := hAl g (h1.mu g (.inr (.inl e)))
       omega
     · have := hAl g (h1.mu g (.inr (.inr (.inl e))))
       omega
     · have := Option.some.inj e
       omega
    have hfin := hgr.replan (b := w2.heap.size) (k := k) (mask := mask) (mv := .slice va m vc) (.inr ⟨by omega, by omega⟩)
     ⟨fun e => hne d hAd e.symm, fun e => hne mb (h1.mu mb (.inr (.inl rfl))) e.symm, fun e => hne _ (h1.mu _ (.inr (.inr (.inl e)))) rfl⟩ (fun v hv e => hne _ ((h1.ct v hv).2 _ e).1 rfl) (fun x v hv e => hne _ ((h1.cw x v hv).2 _ e).1 rfl) hcn hsl hb
    rw [HD.out]
    refine ⟨rfl, DgX.grow ⟨_, _, _, _, _, hfin⟩ (fun g hg => hg.imp id fun e => ⟨e.1, by omega⟩) fun g hg => hg.elim (fun e => by have := hAl g e; omega) fun e => e.2, ?_⟩
    exact ((oA.trans (hs2.mono fun _ e => e.elim)).alloc _).setCell (p := ⟨d, 3, none⟩) (.inl hAd) _)
   clear hv2 hb2 hg2 hs2 k2 k2c HCL H1
   go_wp2_with fail
   go_end0
   exact F.out
 · have q : decide (0 ≤ k) = false := decide_eq_false hk
   have F := Lib.hid (show ArPost A w d (D.arm k mask) (.returned (.tuple #[])) (w.setCell ⟨d, 3, none⟩ (.pointer none)) from by
    unfold PDk.arm
    rw [if_neg hk]
    have hAl : ∀ g, A g → g < w.heap.size := HAL.out
    exact ⟨rfl, DgX.grow ⟨_, _, _, _, _, h1⟩ (fun _ hg => .inl hg) fun g hg => hg.elim (fun e => by have := hAl g e; omega) fun e => e.2, oA⟩)
   clear h h1 o1 z1 oA hm hA hb hml hk
   go_enter Tryz.func27, Tryz.ntmps27
   go_wp2_with fail
   go_end0
   exact F.out
end
end Go.Proofs.YtlcfoeikamkpmaaGreat

namespace Go.Proofs.YtlcfoeikamkpmaaGreat
open Go.RowKit Go.Wh Go.Maps

def NewRelK (w : World) (d mb i : Nat) (wr : World) : Prop := NewRel w d mb i wr ∧ kmap wr Tryz.prog 3 (fun z : Int => .int .i64 z) mb (fun _ => none)
set_option maxHeartbeats 2000000 in
set_option maxRecDepth 100000 in
theorem new_k (w : World) (n : Nat) (hn : n ≤ 2000) :
 Calls Tryz.prog 10 #[.int .i64 n] w (fun e w' => ∃ d mb, e = .returned (.pointer (some ⟨d, 0, none⟩)) ∧ w.heap.size ≤ d ∧ w.heap.size ≤ mb ∧ NewRelK w d mb n w') := by
 have HW := Lib.hid (fun t => show NewRelK w (w.heap.size + 1) w.heap.size 0 ((w.alloc (.map #[] 0)).alloc (.cells #[.slice none 0 0, .map (some w.heap.size), .bool false, .pointer none] t)) from by
  have hz : (w.alloc (.map #[] 0)).heap.size = w.heap.size + 1 := by simp
  have hk0 : kmap ((w.alloc (.map #[] 0)).alloc (.cells #[.slice none 0 0, .map (some w.heap.size), .bool false, .pointer none] t)) Tryz.prog 3 (fun z : Int => .int .i64 z) w.heap.size (fun _ => none) := (kmap_made w _ _ _).block (alloc_kept (w.alloc (.map #[] 0)) _ (by rw [hz]; omega))
  refine ⟨⟨.slice none 0 0, [], ⟨?_, Vec.nil _ _, fun i l hi => by simp at hi, ⟨_, hk0⟩, by omega, (fun g e => by cases e), (fun v hv => by cases hv), (fun v hv => by cases hv)⟩, ((Still.refl w).alloc _).alloc _, (fun g e => by cases e), (fun v hv => by cases hv)⟩, hk0⟩
  have := cellsAt_new (w.alloc (.map #[] 0)) [.slice none 0 0, .map (some w.heap.size), .bool false, .pointer none] t
  rw [hz] at this
  exact this)
 have hmk : ∀ w : World, (Instr.makeMap 80 none).run Tryz.prog w = .ok (.map (some w.heap.size)) (w.alloc (.map #[] 0)) := fun w => by kernel_rfl
 have e1 : max (n : Int) 0 = n := by omega
 have e2 : min (n : Int) 2000 = n := by omega
 have HN := Lib.hid hn
 clear hn
 go_enter Tryz.func10, Tryz.ntmps10
 go_wp2_with fail
 have hW := HW.out 84
 clear HW
 generalize ((w.alloc (.map #[] 0)).alloc (.cells #[.slice none 0 0, .map (some w.heap.size), .bool false, .pointer none] 84)) = w0 at hW ⊢
 have HD := Lib.hid (show w.heap.size ≤ w.heap.size + 1 ∧ w.heap.size ≤ w.heap.size from ⟨by omega, by omega⟩)
 obtain ⟨d, hd⟩ : ∃ d, w.heap.size + 1 = d := ⟨_, rfl⟩
 obtain ⟨mb, hmb⟩ : ∃ mb, w.heap.size = mb := ⟨_, rfl⟩
 have HD := Lib.hid (show w.heap.size ≤ d ∧ w.heap.size ≤ mb from ⟨by omega, by omega⟩)
 rw [hd, hmb] at hW
 rw [hd]
 have HW := Lib.hid hW
 clear hW hd hmb hmk
 go_loopw [10] (fun s wr => ∃ i : Nat, s = .int .i64 i ∧ i ≤ n ∧ NewRelK w d mb i wr) (fun s _ => n - (intOf s).toNat)
 case atStart => exact ⟨0, rfl, Nat.zero_le _, HW.out⟩
 case round =>
  clear HW
  obtain ⟨i, rfl, hin, ⟨tv, vs, h, hs, ht, hv⟩, hkm⟩ := hrel
  have HKM := Lib.hid hkm
  by_cases hi : i < n
  · have b1 : decide ((i : Int) < (n : Int)) = true := by simp; omega
    have b2 : decide (i < n) = true := by simp; omega
    have u9 : IntKind.i64.wrap ((i : Int) + 1) = (i : Int) + 1 := IntWalk.i64_in _ (by have := HN.out; omega)
    obtain ⟨ta, tc, htv⟩ := h.form
    rw [List.length_replicate] at htv
    subst htv
    have H := Lib.hid h
    have HH := Lib.hid (And.intro hs (And.intro ht hv))
    have SS := Lib.hid (fun w' (hst : Only (fun _ => False) wr w') => show w'.cell? ⟨d, 0, none⟩ = some (.slice ta i tc) from Still.cell hst (H.out.cells.cell 0))
    have hmk := make64
    obtain ⟨i0, hi0, hz0, hz1, hz2⟩ := info_parts info_bb
    have HI := Lib.hid (And.intro hi0 (And.intro hz0 (And.intro hz1 hz2)))
    have HVT := Lib.hid (fun A B => show Vec ((wr.drew.alloc A).alloc B) 1 (.slice ta i tc) i vs from by
     have := h.t
     rw [List.length_replicate] at this
     exact (this.drew.alloc A).alloc B)
    have HRX := Lib.hid (fun A => show Reads ((wr.drew.alloc A).alloc (.cells #[.slice (some ⟨wr.heap.size, 0, none⟩) 64 64] 22)) 1 (.slice (some ⟨wr.heap.size + 1, 0, none⟩) 1 1) 1 [.slice (some ⟨wr.heap.size, 0, none⟩) 64 64] from by
     have := cellsAt_new (wr.drew.alloc A) [.slice (some ⟨wr.heap.size, 0, none⟩) 64 64] 22
     rw [show (wr.drew.alloc A).heap.size = wr.heap.size + 1 from by simp] at this
     exact this.reads rfl)
    have HFIN := Lib.hid (fun v' w' (hv' : Vec w' 1 v' (i + 1) (vs ++ [.slice (some ⟨wr.heap.size, 0, none⟩) 64 64])) (ho' : Only (fun k => (Value.slice ta i tc).ownBlock = some k) ((wr.drew.alloc (.cells (bc (List.replicate 64 0)).toArray 5)).alloc (.cells #[.slice (some ⟨wr.heap.size, 0, none⟩) 64 64] 22)) w')
     (hb' : v'.ownBlock = (Value.slice ta i tc).ownBlock ∨ ∃ g, v'.ownBlock = some g ∧ ((wr.drew.alloc (.cells (bc (List.replicate 64 0)).toArray 5)).alloc (.cells #[.slice (some ⟨wr.heap.size, 0, none⟩) 64 64] 22)).heap.size ≤ g ∧ g < w'.heap.size) =>
     show w'.cell? ⟨d, 0, none⟩ = some (.slice ta i tc) ∧ w'.frozen? ⟨d, 0, none⟩ = false ∧ NewRelK w d mb (i + 1) (w'.setCell ⟨d, 0, none⟩ v') from by
     have hz : ((wr.drew.alloc (.cells (bc (List.replicate 64 0)).toArray 5)).alloc (.cells #[.slice (some ⟨wr.heap.size, 0, none⟩) 64 64] 22)).heap.size = wr.heap.size + 2 := by simp
     have hs0 : Still wr ((wr.drew.alloc (.cells (bc (List.replicate 64 0)).toArray 5)).alloc (.cells #[.slice (some ⟨wr.heap.size, 0, none⟩) 64 64] 22)) := ((still_drew wr).alloc _).alloc _
     have hO : Only (fun b => (Value.slice ta i tc).ownBlock = some b) wr w' := (hs0.mono fun _ e => e.elim).trans ho'
     have hdc := h.cells.only hO fun e => (h.td d e).1 rfl
     have hsz := ho'.size
     have hlt := h.lt
     have hw := hs.size
     rw [hz] at hsz hb'
     have hown : (Value.slice (some ⟨wr.heap.size, 0, none⟩) 64 64).ownBlock = some wr.heap.size := rfl
     refine ⟨hdc.cell 0, hdc.free 0, ?_⟩
     have hrd : Reads w' 1 (.slice (some ⟨wr.heap.size, 0, none⟩) 64 64) 64 (bc (List.replicate 64 0)) := by
      have h1 := cellsAt_new wr.drew (bc (List.replicate 64 0)) 5
      have h2 := (h1.alloc (.cells #[.slice (some ⟨wr.heap.size, 0, none⟩) 64 64] 22)).only ho' fun e => by
       have e2 := (h.td _ e).2.2
       have e3 : wr.drew.heap.size = wr.heap.size := rfl
       omega
      exact h2.reads (by rw [bc_length, List.length_replicate])
     have hp := h.push (l := List.replicate 64 0) hO (by rw [List.length_replicate]; exact hv') hrd (fun g hg => by rw [hown] at hg; injection hg with hg; omega) (fun g hg => by
      rcases hb' with e | ⟨g', e, e1, e2⟩
      · rw [e] at hg
        exact ⟨.inl hg, by have := (h.td g hg).2.2; omega⟩
      · rw [e] at hg
        injection hg with hg
        exact ⟨.inr (by omega), by omega⟩) (fun g hg e => by
      rw [hown] at hg
      injection hg with hg
      rcases hb' with e' | ⟨g', e', e1, e2⟩
      · rw [e'] at e
        have := (h.td g e).2.2
        omega
      · rw [e'] at e
        injection e with e
        omega) rfl
     have hkf : kmap (w'.setCell ⟨d, 0, none⟩ v') Tryz.prog 3 (fun z : Int => .int .i64 z) mb (fun _ => none) := (hkm.block (hO.block mb hkm.lt fun e => (h.td mb e).2.1 rfl)).block ((setCell_only w' ⟨d, 0, none⟩ v').block mb (by have := hO.size; have := hkm.lt; omega) fun e => h.dm (show mb = d from e).symm)
     refine ⟨⟨v', _, by rw [List.replicate_succ']; exact hp, ?_, fun g hg => ?_, fun u hu g hg => ?_⟩, hkf⟩
     · have h1 : Only (fun b => w.heap.size ≤ b) w w' := (hs.mono fun _ e => e.elim).trans (hO.mono fun b e => ht b e)
       have h2 := h1.setCell (p := ⟨d, 0, none⟩) (.inl HD.out.1) v'
       exact ⟨h2.os, h2.tape, h2.output, h2.size, fun b hb _ => h2.block b hb fun e => by omega⟩
     · rcases hb' with e | ⟨g', e, e1, e2⟩
       · rw [e] at hg
         exact ht g hg
       · rw [e] at hg
         injection hg with hg
         omega
     · rcases List.mem_append.1 hu with hu | hu
       · exact hv u hu g hg
       · rw [List.mem_singleton.1 hu, hown] at hg
         injection hg with hg
         omega)
    clear h hs ht hv hkm hi0 hz0 hz1 hz2
    go_wp2_with fail
    refine wp_region_D_drew (D := (fun i => [0, 1, 2, 3, 8, 9, 10].contains i)) (S := (fun w' => w'.cell? ⟨d, 0, none⟩ = some (.slice ta i tc))) (by kernel_rfl) ?_ (fun hHeld => ?_)
    · exact SS.out _ (still_drew _)
    (refine takeD (i := 0) (some 12) (v := ?_) rfl (by rfl) (by rfl) (by kernel_rfl) (by rfl) (fun _ _ _ h => h) ?_ ?_; rotate_left; (intro w; go_simp; try with_reducible rfl); try go_frame)
    (refine takeD (i := 1) (some 13) (v := ?_) rfl (by rfl) (by rfl) (by kernel_rfl) (by rfl) (fun _ _ _ h => h) ?_ ?_; rotate_left; (intro w; go_simp; try with_reducible rfl); try go_frame)
    (refine takeD (i := 2) (some 14) (v := ?_) rfl (by rfl) (by rfl) (by kernel_rfl) (by rfl) (fun _ _ _ h => h) ?_ ?_; rotate_left; (intro w; go_simp; try with_reducible rfl); try go_frame)
    (refine takeD (i := 3) (some 15) (v := ?_) rfl (by rfl) (by rfl) (by kernel_rfl) (by rfl) (fun _ _ _ h => h) ?_ ?_; rotate_left; (intro w; go_simp; try with_reducible rfl); try go_frame)
    (refine takeS (i := 4) (some 16) (v := ?_) rfl (by rfl) (by rfl) (by kernel_rfl) (by rfl) (fun _ _ _ h => h) (by assumption) ?_ ?_; rotate_left; (intro w hSw; (try dsimp only at hSw); go_simp; try with_reducible rfl); try go_frame)
    refine wpAnyD_ready (rs := [5]) (by kernel_rfl) (by simp) ?_
    refine ReadyD.cons rfl (fun K hK => ?_) ?_
    go_simp
    (refine hK.out _ _ ?_ (fun hNew => ?_); (focus (exact SS.out _ (Only.alloc (still_drew _) _))); clear hHeld; have hHeld := hNew; clear hNew)
    (clear hK K; try go_frame)
    refine wpAnyD_ready (rs := [6]) (by kernel_rfl) (by simp) ?_
    refine ReadyD.cons rfl (fun K hK => ?_) ?_
    go_simp
    (refine hK.out _ _ ?_ (fun hNew => ?_); (focus (exact SS.out _ (Only.alloc (Only.alloc (still_drew _) _) _))); clear hHeld; have hHeld := hNew; clear hNew)
    (clear hK K; try go_frame)
    refine wpAnyD_ready (rs := [7]) (by kernel_rfl) (by simp) ?_
    refine ReadyD.cons rfl (fun K hK => ?_) ?_
    refine step_append_vec rfl _ _ 81 rfl 22 i0 _ 1 24 Tryz.underlying81 HI.out.1 HI.out.2.1 HI.out.2.2.1 HI.out.2.2.2 rfl (by decide) (.slice ta i tc) i vs (by simp [Act.eval]) (HVT.out _ _) (.slice (some ⟨wr.heap.size + 1, 0, none⟩) 1 1) 1 [.slice (some ⟨wr.heap.size, 0, none⟩) 64 64] (by simp [Act.eval]) (HRX.out _) (by intro u hu; simp at hu; rw [hu]; rfl) (by have := HN.out; simp only [maxLen]; omega) (by have := HN.out; omega) ?_
    intro v' w' hv' ho' hb'
    have hfin := HFIN.out v' w' hv' ho' hb'
    obtain ⟨k1, k2, k3⟩ := hfin
    obtain ⟨va, vc, rfl⟩ := hv'.form'
    have HK3 := Lib.hid k3
    (refine hK.out _ _ ?_ (fun hNew => ?_); (focus (exact k1)); clear hHeld; have hHeld := hNew; clear hNew)
    (clear hK K hv' ho' hb' k3; try go_frame)
    (refine takeD (i := 8) (some 20) (v := ?_) rfl (by rfl) (by rfl) (by kernel_rfl) (by rfl) (fun _ _ _ h => h) ?_ ?_; rotate_left; (intro w; go_simp; try with_reducible rfl); try go_frame)
    (refine takeD (i := 9) (some 21) (v := ?_) rfl (by rfl) (by rfl) (by kernel_rfl) (by rfl) (fun _ _ _ h => h) ?_ ?_; rotate_left; (intro w; go_simp; try with_reducible rfl); try go_frame)
    refine wpAnyD_ready (rs := [10]) (by kernel_rfl) (by simp) ?_
    refine ReadyD.last rfl (by rfl) (fun K hK => ?_) ?_
    go_simp
    refine hK.out _ _ ?_
    (clear hK K; try go_frame)
    refine wpAnyD_done (by kernel_rfl) ?_ _
    rotate_left
    exact ReadyD.nil
    exact ReadyD.nil
    exact ReadyD.nil
    exact ReadyD.nil
    go_wp2_with fail
    go_roundw
    case rel => exact ⟨i + 1, by go_num, by omega, HK3.out⟩
    case measure => simp [intOf]; omega
  · have hge : i = n := by omega
    subst hge
    have b1 : decide ((i : Int) < (i : Int)) = false := by simp
    have F := Lib.hid (show ∃ d' mb, (Ending.returned (.pointer (some ⟨d, 0, none⟩))) = .returned (.pointer (some ⟨d', 0, none⟩)) ∧ w.heap.size ≤ d' ∧ w.heap.size ≤ mb ∧ NewRelK w d' mb i wr from ⟨d, mb, rfl, HD.out.1, HD.out.2, ⟨tv, vs, h, hs, ht, hv⟩, hkm⟩)
    clear h hs ht hv hkm
    go_wp2_with fail
    go_ret
    exact F.out

theorem dg_of_dk {A : Nat → Prop} {w : World} {d mb : Nat} {T : List (List Int)} {tv : Value} {vs : List Value} (h : DkAt w d T tv mb vs) (hk : kmap w Tryz.prog 3 (fun z : Int => .int .i64 z) mb (fun _ => none)) (h1 : A d) (h2 : A mb) (h3 : ∀ g, tv.ownBlock = some g → A g) (h4 : ∀ v ∈ vs, ∀ g, v.ownBlock = some g → A g) (hl : ∀ g, A g → g < w.heap.size) :
 DgAt A w d ⟨T, fun _ => none, false, none⟩ tv mb vs (fun _ => none) none where
 cells := h.cells
 t := h.t
 ins := h.ins
 m := hk
 wi x v hv := by cases hv
 wn i _ := rfl
 pl k mask hp := by cases hp
 pn _ := rfl
 dm := h.dm
 td g hg := ⟨(h.td g hg).1, (h.td g hg).2.1⟩
 pd g hg := by cases hg
 mu g hg := by
  rcases hg with e | e | e | e
  · exact e ▸ h1
  · exact e ▸ h2
  · exact h3 g e
  · cases e
 ct v hv := ⟨h.one v hv, fun g hg => ⟨h4 v hv g hg, fun e => by
  have hi := h.ia v hv g hg
  rcases e with e | e | e | e
  · exact hi.1 e
  · exact hi.2.1 e
  · exact hi.2.2.1 e
  · cases e⟩⟩
 cw x v hv := by cases hv
 lt := hl
def newD (n : Nat) : PDk := ⟨zeroT n, fun _ => none, false, none⟩
theorem new_g (w : World) (n : Nat) (hn : n ≤ 2000) {N : Int} (hN : (n : Int) = N) :
 Calls Tryz.prog 10 #[.int .i64 N] w (fun e w' => ∃ d, e = .returned (.pointer (some ⟨d, 0, none⟩)) ∧ DgX (fun g => w.heap.size ≤ g ∧ g < w'.heap.size) d (newD n) w' ∧ Still w w') := by
 subst hN
 refine (new_k w n hn).mono fun e w' h => ?_
 obtain ⟨d, mb, rfl, h1, h2, ⟨tv, vs, hd, hs, ht, hv⟩, hk⟩ := h
 have hlt := hd.lt
 exact ⟨d, rfl, ⟨tv, mb, vs, _, none, dg_of_dk hd hk ⟨h1, hlt.1⟩ ⟨h2, hlt.2⟩ (fun g hg => ⟨ht g hg, (hd.td g hg).2.2⟩) (fun v hv' g hg => ⟨hv v hv' g hg, (hd.ia v hv' g hg).2.2.2⟩) fun g hg => hg.2⟩, hs⟩
end Go.Proofs.YtlcfoeikamkpmaaGreat

namespace Go.Proofs.YtlcfoeikamkpmaaGreat
open Go.Wh

def PDk.byt (D : PDk) : Prop := (∀ l ∈ D.T, Byt l) ∧ ∀ i l, D.was i = some l → Byt l
theorem crashN_byt {was : Nat → Option (List Int)} {mask : List Int} {L : List Nat} {T : List (List Int)} (h1 : ∀ l ∈ T, Byt l) (h2 : ∀ i l, was i = some l → Byt l) : ∀ (i : Nat), ∀ l ∈ crashN was mask L T i, Byt l
 | 0 => h1
 | i + 1 => fun l hl => by
  unfold crashN at hl
  split at hl
  · exact crashN_byt h1 h2 i l hl
  · rcases List.mem_or_eq_of_mem_set hl with hl | rfl
    · exact crashN_byt h1 h2 i l hl
    · cases hw : was (L.getD i 0) with
      | none => exact fun z hz => by cases hz
      | some o => exact h2 _ _ hw
theorem PDk.byt_crash {D : PDk} (h : D.byt) (mask : List Int) : (D.crash mask).byt := ⟨crashN_byt h.1 h.2 _, fun i l e => by cases e⟩
theorem PDk.byt_less {D : PDk} (h : D.byt) : D.less.byt := h
theorem PDk.byt_done {D : PDk} (h : D.byt) : D.done.2.byt := by
 unfold PDk.done
 cases hp : D.plan with
 | none => exact h
 | some p =>
  dsimp only
  split
  · exact PDk.byt_crash h _
  · exact h
theorem PDk.byt_laid {D : PDk} (h : D.byt) {i : Nat} {l : List Int} (hl : Byt l) : (D.laid i l).byt := by
 refine ⟨fun x hx => (List.mem_or_eq_of_mem_set hx).elim (h.1 x) fun e => e ▸ hl, fun j o hj => ?_⟩
 have hj' : (D.wet i).was j = some o := hj
 unfold PDk.wet at hj'
 dsimp only at hj'
 split at hj'
 · exact h.2 j o hj'
 · by_cases hji : j = i
   · subst hji
     rw [upd_same] at hj'
     exact h.1 o (List.mem_of_getElem? hj')
   · rw [upd_other _ _ hji] at hj'
     exact h.2 j o hj'
theorem PDk.byt_sync {D : PDk} (h : D.byt) : D.sync.2.byt := by
 unfold PDk.sync
 split
 · exact h
 · split
   · exact PDk.byt_crash (PDk.byt_less h) _
   · exact ⟨h.1, fun i l e => by cases e⟩
theorem clN_byt {D : PDk} {at_ : Nat} {S : List Int} (h : D.byt) (hS : Byt S) : ∀ (i : Nat), (clN D at_ S i).2.1.byt
 | 0 => h
 | i + 1 => by
  unfold clN
  split
  · exact clN_byt h hS i
  · split
    · exact clN_byt h hS i
    · exact PDk.byt_done (PDk.byt_laid (clN_byt h hS i) (tileB_byt hS))
theorem PDk.byt_clean {D : PDk} {at_ n : Nat} {S : List Int} (h : D.byt) (hS : Byt S) : (D.clean at_ S n).2.byt := by
 unfold PDk.clean
 split
 · exact clN_byt h hS n
 · split
   · exact PDk.byt_sync (clN_byt h hS n)
   · exact clN_byt h hS n
theorem clN_byte {D : PDk} {at_ : Nat} {S : List Int} (h : D.byt) (hS : Byt S) (i : Nat) (l : List Int) (hl : (clN D at_ S i).2.1.T[at_ + i]? = some l) : Byt l := (clN_byt h hS i).1 l (List.mem_of_getElem? hl)
theorem clN_T {D : PDk} {at_ : Nat} {S : List Int} (hf : D.fine) (hq : D.dead = false) : ∀ (i : Nat), (clN D at_ S i).1 = 0 → (clN D at_ S i).2.1.T = layB D.T at_ S i
 | 0, _ => rfl
 | i + 1, h => by
  by_cases he : (clN D at_ S i).1 = 0
  · have ih := clN_T (S := S) (at_ := at_) hf hq i he
    have hok := clN_ok (S := S) (at_ := at_) hf hq i he
    have e : clN D at_ S (i + 1) = (if (clN D at_ S i).2.1.T[at_ + i]? = some (tileB S i) then clN D at_ S i else ((((clN D at_ S i).2.1.laid (at_ + i) (tileB S i)).done).1, (((clN D at_ S i).2.1.laid (at_ + i) (tileB S i)).done).2, true)) := by
     show (if (clN D at_ S i).1 ≠ 0 then _ else _) = _
     rw [if_neg (by rw [he]; decide)]
    rw [e] at h ⊢
    show _ = (layB D.T at_ S i).set (at_ + i) (tileB S i)
    split at h
    · rename_i hx
      rw [if_pos hx, ih]
      rw [ih] at hx
      obtain ⟨h1, h2⟩ := List.getElem?_eq_some_iff.1 hx
      rw [← h2, List.set_getElem_self]
    · rename_i hx
      rw [if_neg hx]
      have := (PDk.done_ok (D := (clN D at_ S i).2.1.laid (at_ + i) (tileB S i)) hok.1 hok.2 h).2.2.1
      show (((clN D at_ S i).2.1.laid (at_ + i) (tileB S i)).done).2.T = _
      rw [this]
      show (clN D at_ S i).2.1.T.set _ _ = _
      rw [ih]
  · exfalso
    have e : clN D at_ S (i + 1) = clN D at_ S i := by
     show (if (clN D at_ S i).1 ≠ 0 then _ else _) = _
     rw [if_pos he]
    rw [e] at h
    exact he h
theorem PDk.sync_ok {D : PDk} (hf : D.fine) (hq : D.dead = false) (h : D.sync.1 = 0) : D.sync.2.fine ∧ D.sync.2.dead = false ∧ D.sync.2.T = D.T ∧ D.sync.2.was = fun _ => none := by
 unfold PDk.sync at h ⊢
 rw [if_neg (by rw [hq]; decide)] at h ⊢
 split at h
 · cases h
 · rename_i hc
   rw [if_neg hc]
   refine ⟨fun k mask he => ?_, hq, rfl, rfl⟩
   have he' : D.plan.map (fun p => (p.1 - 1, p.2)) = some (k, mask) := he
   cases hp : D.plan with
   | none => rw [hp] at he'; cases he'
   | some p =>
    obtain ⟨k', m'⟩ := p
    rw [hp] at he'
    injection he' with he'
    injection he' with e1 e2
    have h1 := hf k' m' hp
    have h2 : ¬ (k' - 1 < 0) := fun e => hc (by unfold PDk.cuts; rw [hp]; exact decide_eq_true e)
    dsimp only at e1
    omega
theorem PDk.clean_ok {D : PDk} {at_ n : Nat} {S : List Int} (hf : D.fine) (hq : D.dead = false) (hw : D.was = fun _ => none) (h : (D.clean at_ S n).1 = 0) : (D.clean at_ S n).2.fine ∧ (D.clean at_ S n).2.dead = false ∧ (D.clean at_ S n).2.T = layB D.T at_ S n ∧ (D.clean at_ S n).2.was = fun _ => none := by
 unfold PDk.clean at h ⊢
 split at h
 · rename_i he
   exact absurd h he
 · rename_i he
   have he : (clN D at_ S n).1 = 0 := by
    by_cases hx : (clN D at_ S n).1 = 0
    · exact hx
    · exact absurd hx he
   have hok := clN_ok (S := S) (at_ := at_) hf hq n he
   have hT := clN_T (S := S) (at_ := at_) hf hq n he
   rw [if_neg (by rw [he]; decide)]
   split at h
   · rename_i ha
     rw [if_pos ha]
     have := PDk.sync_ok hok.1 hok.2 h
     exact ⟨this.1, this.2.1, this.2.2.1.trans hT, this.2.2.2⟩
   · rename_i ha
     rw [if_neg ha]
     refine ⟨hok.1, hok.2, hT, ?_⟩
     have key : ∀ i, (clN D at_ S i).2.2 = false → (clN D at_ S i).2.1.was = D.was := fun i => by
      induction i with
      | zero => intro _; rfl
      | succ i ih =>
       intro hf
       unfold clN at hf ⊢
       split
       · rename_i h1
         rw [if_pos h1] at hf
         exact ih hf
       · rename_i h1
         rw [if_neg h1] at hf
         split
         · rename_i h2
           rw [if_pos h2] at hf
           exact ih hf
         · rename_i h2
           rw [if_neg h2] at hf
           cases hf
     rw [key n (by simpa using ha), hw]
theorem PDk.done_plain {D : PDk} (hp : D.plan = none) : D.done = (0, D) := by
 unfold PDk.done
 rw [hp]
theorem clN_plain {D : PDk} {at_ : Nat} {S : List Int} (hp : D.plan = none) : ∀ (i : Nat), (clN D at_ S i).1 = 0 ∧ (clN D at_ S i).2.1.plan = none
 | 0 => ⟨rfl, hp⟩
 | i + 1 => by
  have ih := clN_plain (S := S) (at_ := at_) hp i
  unfold clN
  rw [if_neg (by rw [ih.1]; decide)]
  split
  · exact ih
  · have : ((clN D at_ S i).2.1.laid (at_ + i) (tileB S i)).plan = none := ih.2
    rw [PDk.done_plain this]
    exact ⟨rfl, ih.2⟩
theorem PDk.clean_plain {D : PDk} {at_ n : Nat} {S : List Int} (hq : D.dead = false) (hp : D.plan = none) : (D.clean at_ S n).1 = 0 ∧ (D.clean at_ S n).2.plan = none := by
 have h := clN_plain (S := S) (at_ := at_) hp n
 have hf : D.fine := fun k mask e => by rw [hp] at e; cases e
 have hok := clN_ok (S := S) (at_ := at_) hf hq n h.1
 unfold PDk.clean
 rw [if_neg (by rw [h.1]; decide)]
 split
 · unfold PDk.sync PDk.cuts
   rw [if_neg (by rw [hok.2]; decide), h.2]
   refine ⟨rfl, ?_⟩
   show (clN D at_ S n).2.1.plan.map _ = none
   rw [h.2]
   rfl
 · exact ⟨rfl, h.2⟩
theorem PDk.fine_none {D : PDk} (hp : D.plan = none) : D.fine := fun k mask e => by rw [hp] at e; cases e
def PDk.down (D : PDk) : Prop := D.dead = true ∧ D.plan = none ∧ D.was = fun _ => none
theorem PDk.crash_down (D : PDk) (mask : List Int) : (D.crash mask).down := ⟨rfl, rfl, rfl⟩
theorem PDk.done_cut {D : PDk} (h : D.done.1 ≠ 0) : D.done.2.down := by
 unfold PDk.done at h ⊢
 cases hp : D.plan with
 | none => rw [hp] at h; exact absurd rfl h
 | some p =>
  rw [hp] at h
  dsimp only at h ⊢
  split at h
  · rename_i hk
    rw [if_pos hk]
    exact PDk.crash_down _ _
  · exact absurd rfl h
theorem clN_cut {D : PDk} {at_ : Nat} {S : List Int} : ∀ (i : Nat), (clN D at_ S i).1 ≠ 0 → (clN D at_ S i).2.1.down
 | 0, h => absurd rfl h
 | i + 1, h => by
  unfold clN at h ⊢
  split at h
  · rename_i he
    rw [if_pos he]
    exact clN_cut i he
  · rename_i he
    rw [if_neg he]
    split at h
    · exact absurd h he
    · rename_i hx
      rw [if_neg hx]
      exact PDk.done_cut h
theorem PDk.clean_cut {D : PDk} {at_ n : Nat} {S : List Int} (hf : D.fine) (hq : D.dead = false) (h : (D.clean at_ S n).1 ≠ 0) : (D.clean at_ S n).2.down := by
 unfold PDk.clean at h ⊢
 split at h
 · rename_i he
   rw [if_pos he]
   exact clN_cut n he
 · rename_i he
   rw [if_neg he]
   have he0 : (clN D at_ S n).1 = 0 := by
    by_cases hx : (clN D at_ S n).1 = 0
    · exact hx
    · exact absurd hx he
   have hok := clN_ok (S := S) (at_ := at_) hf hq n he0
   split at h
   · rename_i ha
     rw [if_pos ha]
     unfold PDk.sync at h ⊢
     rw [if_neg (by rw [hok.2]; decide)] at h ⊢
     split at h
     · rename_i hc
       rw [if_pos hc]
       exact PDk.crash_down _ _
     · exact absurd rfl h
   · exact absurd rfl h
end Go.Proofs.YtlcfoeikamkpmaaGreat

namespace Go.Proofs.YtlcfoeikamkpmaaGreat
open Go.Wh

def PDk.put (D : PDk) (i : Int) (l : List Int) : Int × PDk := if D.may i ≠ 0 then (D.may i, D) else (D.laid i.toNat l).done
def foB (D : PDk) (at_ : Nat) (S : List Int) (n c st : Nat) : Int × PDk × Nat :=
 if st = c then (0, D, st) else if D.dead = true then (2, D, st) else ((D.clean at_ S n).1, (D.clean at_ S n).2, if (D.clean at_ S n).1 = 0 then c else st)
def openE (D : PDk) (at_ n : Nat) : List PE := (scanB ((readB (tls D.T at_ n)).length + 1) (readB (tls D.T at_ n))).1
end Go.Proofs.YtlcfoeikamkpmaaGreat
