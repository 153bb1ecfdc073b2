/- A trail: its tiles say what they should (clean). Conditions: it and the disk lie in memory, apart; its tiles are the disk's, bytes. -/
import Derived.Test.YtojkggppcmdepaaGreatTrF
namespace Go.Proofs.YtojkggppcmdepaaGreat
open Go.RowKit Go.Wh Go.Maps

/-- Tiles from a on turned to what they should say. -/
def layB (T : List (List Int)) (a : Nat) (S : List Int) : Nat → List (List Int)
  | 0 => T
  | i + 1 => (layB T a S i).set (a + i) (tileB S i)
section
variable {T : List (List Int)} {a i j : Nat} {S : List Int}
theorem layB_length : (layB T a S i).length = T.length := by
  induction i with
  | zero => rfl
  | succ i ih => simp [layB, ih]
theorem tileB_byt (h : Byt S) : Byt (tileB S i) := by
  have hp := partB_length S i
  intro z hz
  unfold tileB at hz
  rcases List.mem_cons.1 hz with rfl | hz
  · omega
  · exact ((h.drop _).take _).append (Byt.zeros _) z hz
theorem layB_byt (hb : ∀ l ∈ T, Byt l) (hS : Byt S) : ∀ l ∈ layB T a S i, Byt l := by
  induction i with
  | zero => exact hb
  | succ i ih =>
    intro l hl
    rcases List.mem_or_eq_of_mem_set hl with hl | rfl
    · exact ih l hl
    · exact tileB_byt hS
theorem layB_other (h : j < a ∨ a + i ≤ j) : (layB T a S i)[j]? = T[j]? := by
  induction i with
  | zero => rfl
  | succ i ih =>
    unfold layB
    rw [List.getElem?_set_ne (by omega)]
    exact ih (by omega)
theorem layB_get (hl : a + i ≤ T.length) (h : j < i) : (layB T a S i)[a + j]? = some (tileB S j) := by
  induction i with
  | zero => omega
  | succ i ih =>
    unfold layB
    by_cases e : j = i
    · subst e
      rw [List.getElem?_set_self (by rw [layB_length]; omega)]
    · rw [List.getElem?_set_ne (by omega)]
      exact ih (by omega) (by omega)
theorem layB_tls {n : Nat} (hl : a + n ≤ T.length) : tls (layB T a S n) a n = (List.range n).map fun j => tileB S (0 + j) := by
  unfold tls
  apply List.ext_getElem?
  intro k
  by_cases hk : k < n
  · rw [List.getElem?_take, if_pos hk, List.getElem?_drop, layB_get hl hk, List.getElem?_map, List.getElem?_range hk]
    simp
  · rw [List.getElem?_take, if_neg hk, List.getElem?_eq_none (by simp; omega)]
theorem layB_read {n : Nat} (hl : a + n ≤ T.length) (hS : S.length ≤ n * 63) : readB (tls (layB T a S n) a n) = S := by
  rw [layB_tls hl, readB_tiles S n 0 (by omega), Nat.zero_mul, List.drop_zero]
end

/-- A trail's blocks are none that its disk turns. -/
def SepT (t : Nat) (sv : Value) (mb : Nat) (tv : Value) : Prop := t ≠ mb ∧ tv.ownBlock ≠ some t ∧ ∀ g, sv.ownBlock = some g → g ≠ mb ∧ tv.ownBlock ≠ some g
theorem TlAt.turned {w w' : World} {t d at_ n c st mb : Nat} {S : List Int} {sv tv : Value} (h : TlAt w t d at_ n S sv c st) (hs : SepT t sv mb tv) (ho : Only (fun b => b = mb ∨ tv.ownBlock = some b) w w') : TlAt w' t d at_ n S sv c st :=
  h.only ho (fun e => e.elim hs.1 hs.2.1) fun g hg e => e.elim (hs.2.2 g hg).1 (hs.2.2 g hg).2

def ClRel (w : World) (d : Nat) (T : List (List Int)) (tv : Value) (mb : Nat) (vs : List Value) (w' : World) : Prop := ∃ vs', DkAt w' d T tv mb vs' ∧ Only (fun b => b = mb ∨ tv.ownBlock = some b) w w' ∧ ∀ u ∈ vs', u ∈ vs ∨ ∀ g, u.ownBlock = some g → w.heap.size ≤ g
theorem ClRel.post {w w' : World} {d mb : Nat} {T : List (List Int)} {tv : Value} {vs : List Value} (h : ClRel w d T tv mb vs w') : WrPost w d T tv mb vs (.returned (.int .i64 0)) w' := ⟨rfl, h⟩
theorem ClRel.still {w w' w'' : World} {d mb : Nat} {T : List (List Int)} {tv : Value} {vs : List Value} (h : ClRel w d T tv mb vs w') (hs : Still w' w'') : ClRel w d T tv mb vs w'' := by
  obtain ⟨vs', h1, h2, h3⟩ := h
  exact ⟨vs', h1.still hs, h2.trans (hs.mono fun _ e => e.elim), h3⟩
theorem ClRel.write {w w1 w2 : World} {d mb : Nat} {T' : List (List Int)} {tv : Value} {vs vs1 : List Value} {e : Ending} (ho : Only (fun b => b = mb ∨ tv.ownBlock = some b) w w1) (hv : ∀ u ∈ vs1, u ∈ vs ∨ ∀ g, u.ownBlock = some g → w.heap.size ≤ g) (h : WrPost w1 d T' tv mb vs1 e w2) : ClRel w d T' tv mb vs w2 := by
  obtain ⟨-, vs', h1, h2, h3⟩ := h
  refine ⟨vs', h1, ho.trans h2, fun u hu => ?_⟩
  rcases h3 u hu with h | h
  · exact hv u h
  · exact .inr fun g hg => Nat.le_trans ho.size (h g hg)
theorem ClRel.sync {w w1 w2 : World} {d mb : Nat} {T : List (List Int)} {tv : Value} {vs vs1 : List Value} {e : Ending} (ho : Only (fun b => b = mb ∨ tv.ownBlock = some b) w w1) (hv : ∀ u ∈ vs1, u ∈ vs ∨ ∀ g, u.ownBlock = some g → w.heap.size ≤ g) (h : SyPost w1 d T tv mb vs1 e w2) : ClRel w d T tv mb vs w2 := by
  obtain ⟨-, h1, h2⟩ := h
  exact ⟨vs1, h1, ho.trans (h2.mono fun _ e => .inl e), hv⟩

set_option maxHeartbeats 2000000 in
set_option maxRecDepth 100000 in
theorem clean_any (w : World) (t d at_ n : Nat) (S : List Int) (sv : Value) (c st : Nat) (T : List (List Int)) (tv : Value) (mb : Nat) (vs : List Value) (h : TlAt w t d at_ n S sv c st) (hd : DkAt w d T tv mb vs) (hsep : SepT t sv mb tv) (hT : T.length ≤ 2000) (hn : at_ + n ≤ T.length) (hb : ∀ l ∈ T, Byt l) (hS : S.length ≤ 1000000) :
    Calls Tryz.prog 45 #[.pointer (some ⟨t, 0, none⟩)] w (WrPost w d (layB T at_ S n) tv mb vs) := by
  have H := Lib.hid h
  have HSEP := Lib.hid hsep
  have HB := Lib.hid (And.intro hT (And.intro hn (And.intro hb hS)))
  have c2 : w.cell? ⟨t, 2, none⟩ = some (.int .i64 n) := h.cells.cell 2
  have SS := Lib.hid (fun w' (ho : Only (fun b => b = mb ∨ tv.ownBlock = some b) w w') => show w'.cell? ⟨t, 0, none⟩ = some (.pointer (some ⟨d, 0, none⟩)) ∧ w'.cell? ⟨t, 1, none⟩ = some (.int .i64 at_) from ⟨(h.turned hsep ho).cells.cell 0, (h.turned hsep ho).cells.cell 1⟩)
  have H0 := Lib.hid (show ClRel w d (layB T at_ S 0) tv mb vs w from ⟨vs, hd, Only.refl _ _, fun u hu => .inl hu⟩)
  clear h hd hT hn hb hS hsep
  go_enter Tryz.func45, Tryz.ntmps45
  go_wp2_with fail
  go_loopw [3, 13] (fun s3 s13 wr => ∃ (i : Nat) (b : Bool), s13 = .int .i64 i ∧ s3 = .bool b ∧ i ≤ n ∧ ClRel w d (layB T at_ S i) tv mb vs wr) (fun _ s13 _ => n - (intOf s13).toNat)
  case atStart => exact ⟨0, false, rfl, rfl, Nat.zero_le _, H0.out⟩
  case round =>
    obtain ⟨i, b, rfl, rfl, hin, hr⟩ := hrel
    have HR := Lib.hid hr
    obtain ⟨vs1, hd1, ho1, hv1⟩ := hr
    obtain ⟨c0, c1⟩ := SS.out _ ho1
    have HO := Lib.hid (And.intro hd1 (And.intro ho1 hv1))
    clear hd1 ho1 hv1
    by_cases hi : i < n
    · obtain ⟨l, hl⟩ : ∃ l, (layB T at_ S i)[at_ + i]? = some l := ⟨_, List.getElem?_eq_getElem (by have := HB.out.2.1; rw [layB_length]; omega)⟩
      have HL := Lib.hid hl
      have HRD := Lib.hid (fun w' (hs : Still wr w') => show Calls Tryz.prog 83 #[.pointer (some ⟨d, 0, none⟩), .int .i64 ((at_ : Int) + (i : Int))] w' (fun e w'' => ∃ v, e = .returned (.tuple #[v, .int .i64 0]) ∧ Vec w'' 1 v 64 (bc l) ∧ Still w' w'' ∧ ∀ g, v.ownBlock = some g → w'.heap.size ≤ g ∧ g < w''.heap.size) from by
        have := read_any w' d _ tv mb vs1 (at_ + i) l (HO.out.1.still hs) hl
        rwa [Int.natCast_add] at this)
      have HLB := Lib.hid (show Byt l from layB_byt HB.out.2.2.1 H.out.byt l (List.mem_of_getElem? hl))
      have b1 : decide ((i : Int) < (n : Int)) = true := by simp; omega
      have b2 : decide (i < n) = true := by simp; omega
      have u9 : IntKind.i64.wrap ((i : Int) + 1) = (i : Int) + 1 := IntWalk.i64_in _ (by have := HB.out; omega)
      have u8 : IntKind.i64.wrap ((at_ : Int) + (i : Int)) = (at_ : Int) + (i : Int) := IntWalk.i64_in _ (by have := HB.out; omega)
      have HS := Lib.hid (Still.refl wr)
      have SSR := Lib.hid (fun w' (hs : Still wr w') => SS.out w' (HO.out.2.1.trans (hs.mono fun _ e => e.elim)))
      clear hl c2
      go_wp2_with fail
      go_region_held3 (fun w' => w'.cell? ⟨t, 0, none⟩ = some (.pointer (some ⟨d, 0, none⟩)) ∧ w'.cell? ⟨t, 1, none⟩ = some (.int .i64 at_)) (first | exact ⟨c0, c1⟩ | exact SSR.out _ (by assumption))
        (first | (go_at_call 83; (with_reducible refine (HRD.out _ HS.out.drew).mono ?_); rintro e w3 ⟨v3, rfl, hv3, hs3, hg3⟩; have hs3' : Still wr w3 := HS.out.drew.trans hs3))
      have HT3 := Lib.hid (show TlAt w3 t d at_ n S sv c st from (H.out.turned HSEP.out HO.out.2.1).still hs3')
      have hTI := tile_any w3 t d at_ n S sv c st i HT3.out (by have := HB.out; omega) HB.out.2.2.2
      have HV3 := Lib.hid (And.intro hv3 (And.intro hs3' hg3))
      obtain ⟨va, vc, rfl⟩ := hv3.form'
      clear hv3 hs3 hg3 hs3'
      go_wp2_with fail
      refine hTI.mono ?_
      rintro e w4 ⟨v4, rfl, hv4, hb4, hg4⟩
      have hs4 : Still w3 w4 := Only.ofBelow hb4
      have HV4 := Lib.hid (And.intro hv4 (And.intro hs4 hg4))
      have hEQ := equal_any w4 _ v4 64 64 l (tileB S i) (Vec.sl0 (HV3.out.1.only hs4 fun _ _ e => e) (by omega)) (Vec.sl0 hv4 (by omega)) HLB.out (tileB_byt H.out.byt)
      have HOO := Lib.hid (show Still wr w4 from HV3.out.2.1.trans hs4)
      obtain ⟨wa, wc, rfl⟩ := hv4.form'
      clear hv4 hb4 hg4 hs4 hTI
      go_wp2_with fail
      refine hEQ.mono ?_
      rintro e w5 ⟨rfl, rfl⟩
      clear hEQ
      by_cases hlt : l = tileB S i
      · have q : decide (l = tileB S i) = true := decide_eq_true hlt
        rw [q]
        have HN := Lib.hid (show ClRel w d (layB T at_ S (i + 1)) tv mb vs w5 from by
          have h := HR.out.still HOO.out
          have e : layB T at_ S (i + 1) = layB T at_ S i := by
            show (layB T at_ S i).set (at_ + i) (tileB S i) = _
            obtain ⟨hx, hy⟩ := List.getElem?_eq_some_iff.1 HL.out
            rw [← hlt, ← hy, List.set_getElem_self]
          rw [e]
          exact h)
        clear hlt q
        go_wp2_with fail
        go_roundw
        case rel => exact ⟨i + 1, b, by go_num, rfl, by omega, HN.out⟩
        case measure => simp [intOf]; omega
      · have q : decide (l = tileB S i) = false := decide_eq_false hlt
        rw [q]
        have HWR := Lib.hid (fun w' (hs : Still wr w') (hs4 : Still w5 w') => show Calls Tryz.prog 25 #[.pointer (some ⟨d, 0, none⟩), .int .i64 ((at_ : Int) + (i : Int)), .slice wa 64 wc] w' (WrPost w' d ((layB T at_ S i).set (at_ + i) (tileB S i)) tv mb vs1) from by
          have hdk := HO.out.1.still hs
          have := write_any w' d _ tv mb vs1 (at_ + i) (tileB S i) (.slice wa 64 wc) hdk (by rw [layB_length]; have := HB.out.2.1; omega) (by rw [layB_length]; exact HB.out.1) (HV4.out.1.only hs4 fun _ _ e => e).reads (fun g hg => by
            have h1 := (HV4.out.2.2 g hg).1
            have h2 := (HO.out.1.still HV3.out.2.1).lt.2
            omega)
          rwa [Int.natCast_add] at this)
        have HFIN := Lib.hid (fun w' w'' e (hs : Still wr w') (hp : WrPost w' d ((layB T at_ S i).set (at_ + i) (tileB S i)) tv mb vs1 e w'') => show ClRel w d (layB T at_ S (i + 1)) tv mb vs w'' from ClRel.write (HO.out.2.1.trans (hs.mono fun _ e => e.elim)) HO.out.2.2 hp)
        obtain ⟨k0, k1⟩ := SS.out _ (HO.out.2.1.trans (HOO.out.mono fun _ e => e.elim))
        clear hlt q c0 c1
        go_wp2_with fail
        go_region_held3 (fun w' => w'.cell? ⟨t, 0, none⟩ = some (.pointer (some ⟨d, 0, none⟩)) ∧ w'.cell? ⟨t, 1, none⟩ = some (.int .i64 at_)) (first | exact ⟨k0, k1⟩ | exact SS.out _ (by assumption))
          (first | (go_at_call 25; (with_reducible refine (HWR.out _ (HOO.out.trans (still_drew _)) (still_drew _)).mono ?_); rintro e w6 hp6; have hcl := HFIN.out _ _ _ (HOO.out.trans (still_drew _)) hp6; have hO6 : Only (fun b => b = mb ∨ tv.ownBlock = some b) w w6 := (by obtain ⟨_, _, h, _⟩ := hcl; exact h); obtain ⟨rfl, -⟩ := hp6))
        have HN := Lib.hid hcl
        clear hcl hO6
        go_wp2_with fail
        go_roundw
        case rel => exact ⟨i + 1, true, by go_num, rfl, by omega, HN.out⟩
        case measure => simp [intOf]; omega
    · have hge : i = n := by omega
      subst hge
      have b1 : decide ((i : Int) < (i : Int)) = false := by simp
      cases b with
      | false =>
        have F := Lib.hid HR.out.post
        go_wp2_with fail
        go_ret
        exact F.out
      | true =>
        have hSY := sync_any wr d _ tv mb vs1 HO.out.1
        have HF := Lib.hid (fun e w'' (hp : SyPost wr d (layB T at_ S i) tv mb vs1 e w'') => show WrPost w d (layB T at_ S i) tv mb vs e w'' from by
          have h := ClRel.sync HO.out.2.1 HO.out.2.2 hp
          obtain ⟨rfl, -⟩ := hp
          exact h.post)
        go_wp2_with fail
        refine hSY.mono ?_
        intro e w6 hp
        have F := Lib.hid (HF.out _ _ hp)
        obtain ⟨rfl, -⟩ := hp
        clear hSY
        go_wp2_with fail
        go_ret
        exact F.out
end Go.Proofs.YtojkggppcmdepaaGreat
