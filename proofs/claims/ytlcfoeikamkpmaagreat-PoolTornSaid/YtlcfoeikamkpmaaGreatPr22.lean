/- A trail opened on a disk that may be armed. Conditions: the disk lies in memory, alive. A disk's Write anywhere, dead or not; a trail's Force on whatever disk. Conditions: both lie in memory. A disk behind a Write, a Force, an Open: plain. No program. No conditions. A pool in memory, the disk and the trail that it stands on. No conditions. -/
import Derived.Test.YtlcfoeikamkpmaaGreatPr21
namespace Go.Proofs.YtlcfoeikamkpmaaGreat
open Go.RowKit Go.Wh Go.Maps

theorem readX_any {A : Nat → Prop} {D : PDk} {d : Nat} {w : World} (h : DgX A d D w) (hq : D.dead = false) (i : Nat) (l : List Int) (hi : D.T[i]? = some l) :
 Calls Tryz.prog 31 #[.pointer (some ⟨d, 0, none⟩), .int .i64 i] w (fun e w' => ∃ v, e = .returned (.tuple #[v, .int .i64 0]) ∧ Vec w' 1 v 64 (bc l) ∧ Still w w' ∧ ∀ g, v.ownBlock = some g → w.heap.size ≤ g ∧ g < w'.heap.size) := by
 obtain ⟨tv, mb, vs, V, pp, h⟩ := h
 exact read_at h hq i l hi
set_option maxHeartbeats 2000000 in
set_option maxRecDepth 100000 in
theorem readG_any {A : Nat → Prop} {D : PDk} {T : List (List Int)} (w : World) (t d at_ n : Nat) (S : List Int) (sv : Value) (c st : Nat) (hTT : D.T = T) (hq : D.dead = false) (h : TlAt w t d at_ n S sv c st) (hd : DgX A d D w) (hT : T.length ≤ 2000) (hn : at_ + n ≤ T.length) (hb : ∀ l ∈ T, Byt l) :
 Calls Tryz.prog 34 #[.pointer (some ⟨t, 0, none⟩)] w (RdPost w (readB (tls T at_ n))) := by
 have H := Lib.hid h
 have HDK := Lib.hid hd
 have HTT := Lib.hid (And.intro hTT hq)
 have HB := Lib.hid (And.intro hT (And.intro hn hb))
 have c0 : w.cell? ⟨t, 0, none⟩ = some (.pointer (some ⟨d, 0, none⟩)) := h.cells.cell 0
 have c1 : w.cell? ⟨t, 1, none⟩ = some (.int .i64 at_) := h.cells.cell 1
 have c2 : w.cell? ⟨t, 2, none⟩ = some (.int .i64 n) := h.cells.cell 2
 have SS := Lib.hid (fun w' (hs : Still w w') => show w'.cell? ⟨t, 0, none⟩ = some (.pointer (some ⟨d, 0, none⟩)) ∧ w'.cell? ⟨t, 1, none⟩ = some (.int .i64 at_) from ⟨Still.cell hs c0, Still.cell hs c1⟩)
 obtain ⟨i0, hi0, hz0, hz1, hz2⟩ := info_parts info_b
 have HI := Lib.hid (And.intro hi0 (And.intro hz0 (And.intro hz1 hz2)))
 clear h hd hT hn hb hTT hq hi0 hz0 hz1 hz2 c0 c1
 go_enter Tryz.func34, Tryz.ntmps34
 go_wp2_with fail
 go_loopw [2, 12] (fun s2 s12 wr => ∃ (i : Nat) (acc : List Int), s12 = .int .i64 i ∧ i ≤ n ∧ RdRel w i s2 acc wr ∧ acc ++ readB ((tls T at_ n).drop i) = readB (tls T at_ n)) (fun _ s12 _ => n - (intOf s12).toNat)
 case atStart => exact ⟨0, [], rfl, Nat.zero_le _, ⟨Vec.nil _ _, Still.refl _, (fun g e => by cases e), (fun z hz => by cases hz), Nat.le_refl _⟩, by simp⟩
 case round =>
  obtain ⟨i, acc, rfl, hin, hr, hre⟩ := hrel
  have HE := Lib.hid hre
  clear hre
  have HR := Lib.hid hr
  have hvf := hr.v.form'
  have hst := hr.still
  obtain ⟨c0, c1⟩ := SS.out _ hst
  clear hr
  by_cases hi : i < n
  · obtain ⟨l, hl⟩ : ∃ l, T[at_ + i]? = some l := ⟨_, List.getElem?_eq_getElem (by have := HB.out.2.1; omega)⟩
    have HRD := Lib.hid (fun w' (hs : Still wr w') => show Calls Tryz.prog 31 #[.pointer (some ⟨d, 0, none⟩), .int .i64 ((at_ : Int) + (i : Int))] w' (fun e w'' => ∃ v, e = .returned (.tuple #[v, .int .i64 0]) ∧ Vec w'' 1 v 64 (bc l) ∧ Still w' w'' ∧ ∀ g, v.ownBlock = some g → w'.heap.size ≤ g ∧ g < w''.heap.size) from by
     have := readX_any (HDK.out.still (hst.trans hs)) HTT.out.2 (at_ + i) l (by rw [HTT.out.1]; exact hl)
     rwa [Int.natCast_add] at this)
    have hl64 := HDK.out.lens (by rw [HTT.out.1]; exact hl)
    have hlb := HB.out.2.2 l (List.mem_of_getElem? hl)
    have htl := tls_get (n := n) hl hi
    have HT := Lib.hid (And.intro htl (And.intro hl64 hlb))
    have b1 : decide ((i : Int) < (n : Int)) = true := by simp; omega
    have b2 : decide (i < n) = true := by simp; omega
    have u9 : IntKind.i64.wrap ((i : Int) + 1) = (i : Int) + 1 := IntWalk.i64_in _ (by have := HB.out; omega)
    have u8 : IntKind.i64.wrap ((at_ : Int) + (i : Int)) = (at_ : Int) + (i : Int) := IntWalk.i64_in _ (by have := HB.out; omega)
    have HS := Lib.hid (Still.refl wr)
    obtain ⟨ua, uc, rfl⟩ := hvf
    clear hl hl64 hlb htl hst c2
    go_wp2_with fail
    go_region_held3 (fun w' => w'.cell? ⟨t, 0, none⟩ = some (.pointer (some ⟨d, 0, none⟩)) ∧ w'.cell? ⟨t, 1, none⟩ = some (.int .i64 at_)) (first | exact ⟨c0, c1⟩ | exact SS.out _ (HR.out.still.trans (by assumption)))
     (first | (go_at_call 31; (with_reducible refine (HRD.out _ HS.out.drew).mono ?_); rintro e w3 ⟨v3, rfl, hv3, hs3, hg3⟩; have hs3' : Still wr w3 := HS.out.drew.trans hs3))
    obtain ⟨z, l', rfl⟩ : ∃ z l', l = z :: l' := by
     cases l with
     | nil => have := HT.out.2.1; cases this
     | cons z l' => exact ⟨z, l', rfl⟩
    obtain ⟨g3, o3, k3, rfl, hva⟩ := hv3.form (by omega)
    have hzb := HT.out.2.2 z (by simp)
    have cz : w3.cell? ⟨g3, o3, none⟩ = some (.int .u8 z) := hva.cell 0 (by omega)
    obtain ⟨zn, hzn⟩ : ∃ zn : Nat, z = (zn : Int) := ⟨z.toNat, by omega⟩
    subst hzn
    have hw3 := HR.out.still.trans hs3'
    have HV3 := Lib.hid (And.intro hv3 (And.intro hs3' hg3))
    have hrd : readB ((tls T at_ n).drop i) = if 63 < (zn : Int) then [] else l'.take zn ++ (if (zn : Int) < 63 then [] else readB ((tls T at_ n).drop (i + 1))) := by
     rw [HT.out.1, readB_cons]
     simp
    have HRB := Lib.hid hrd
    clear hva hs3 hg3 hv3 hs3' hrd
    by_cases h63 : (zn : Int) ≤ 63
    rotate_left
    · have q1 : decide (63 < (zn : Int)) = true := decide_eq_true (by omega)
      have q1' : decide (63 < zn) = true := decide_eq_true (by omega)
      have F := Lib.hid (show RdPost w (readB (tls T at_ n)) (.returned (.tuple #[.slice ua acc.length uc, .int .i64 0])) w3 from by
       have he := HE.out
       rw [HRB.out, if_pos (by omega), List.append_nil] at he
       rw [← he]
       exact ⟨_, rfl, HR.out.v.only HV3.out.2.1 fun _ _ e => e, hw3, fun g hg => by have := HR.out.own g hg; have := HV3.out.2.1.size; omega, HR.out.byt⟩)
      clear hw3
      go_wp2_with fail
      go_ret2
      exact F.out
    · have q1 : decide (63 < (zn : Int)) = false := decide_eq_false (by omega)
      have q1' : decide (63 < zn) = false := decide_eq_false (by omega)
      have hl'64 : l'.length = 63 := by have := HT.out.2.1; simp at this; omega
      obtain ⟨pv, r1, -, -, hpv⟩ := Go.Wh.Vec.part (P := Tryz.prog) (size := 1) 22 Tryz.underlying22 (fun w => rfl) HV3.out.1 (show 1 ≤ 1 + zn by omega) (show 1 + zn ≤ 64 by omega)
      have hpc : ((bc ((zn : Int) :: l')).drop (1 * 1)).take ((1 + zn - 1) * 1) = bc (l'.take zn) := by
       rw [show (1 + zn - 1) * 1 = zn by omega, bc_drop, bc_take]
       rfl
      have hpl : (l'.take zn).length = zn := by rw [List.length_take]; omega
      rw [hpc, show 1 + zn - 1 = zn by omega] at hpv
      have HPV := Lib.hid (hpv w3 HV3.out.1).reads
      have r1' : ∀ w : World, (Instr.slice 22 (.slice (some ⟨g3, o3, none⟩) 64 k3) (some (.int .i64 1)) (some (.int .i64 (1 + (zn : Int)))) none).run Tryz.prog w = .ok pv w := fun w => by
       have := r1 w
       rwa [Int.natCast_add] at this
      have u7 : IntKind.i64.wrap (1 + (zn : Int)) = 1 + (zn : Int) := IntWalk.i64_in _ (by omega)
      have HUV := Lib.hid (HR.out.v.only HV3.out.2.1 fun _ _ e => e)
      obtain ⟨pa, pk, rfl⟩ := (hpv w3 HV3.out.1).form'
      have HPB := Lib.hid (show Byt (l'.take zn) from Byt.take (fun y hy => HT.out.2.2 y (by simp [hy])) zn)
      have HPL := Lib.hid hpl
      clear hpc hpl hl'64 r1 hpv hw3
      by_cases hlt : (zn : Int) < 63
      · have q2 : decide ((zn : Int) < 63) = true := decide_eq_true hlt
        have q2' : decide (zn < 63) = true := decide_eq_true (by omega)
        have heq : (acc ++ l'.take zn) = readB (tls T at_ n) := by
         have he := HE.out
         rw [HRB.out, if_neg (by omega), if_pos hlt, List.append_nil] at he
         exact he
        have HEQ := Lib.hid heq
        clear heq hlt
        go_upto_region 9 with fail
        go_wp2_with (at_builtin; refine wpList_append_vec rfl _ _ 22 rfl 5 i0 _ 1 1 Tryz.underlying22 HI.out.1 HI.out.2.1 HI.out.2.2.1 HI.out.2.2.2 rfl (by decide) _ acc.length _ rfl HUV.out _ zn (bc (l'.take zn)) rfl HPV.out (bc_one _) (by have := HR.out.len; have := HB.out; simp only [maxLen]; omega) (by have := HR.out.len; have := HB.out; omega) ?_; intro v' w' hv' ho' hb'; have HNX := Lib.hid (HR.out.next (j := i + 1) HV3.out.2.1 hv' HPL.out ho' hb' HPB.out (by have := HPL.out; omega) rfl); have HB2 := Lib.hid (show RdPost w (readB (tls T at_ n)) (.returned (.tuple #[v', .int .i64 0])) w' from by
         rw [← HEQ.out]
         exact ⟨_, rfl, HNX.out.v, HNX.out.still, HNX.out.own, HNX.out.byt⟩); clear hv' ho' hb')
        go_wp2_with fail
        go_ret2
        exact HB2.out
      · have q2 : decide ((zn : Int) < 63) = false := decide_eq_false hlt
        have q2' : decide (zn < 63) = false := decide_eq_false (by omega)
        have heq : (acc ++ l'.take zn) ++ readB ((tls T at_ n).drop (i + 1)) = readB (tls T at_ n) := by
         have he := HE.out
         rw [HRB.out, if_neg (by omega), if_neg hlt, ← List.append_assoc] at he
         exact he
        have HEQ := Lib.hid heq
        clear heq hlt
        go_upto_region 9 with fail
        go_wp2_with (at_builtin; refine wpList_append_vec rfl _ _ 22 rfl 5 i0 _ 1 1 Tryz.underlying22 HI.out.1 HI.out.2.1 HI.out.2.2.1 HI.out.2.2.2 rfl (by decide) _ acc.length _ rfl HUV.out _ zn (bc (l'.take zn)) rfl HPV.out (bc_one _) (by have := HR.out.len; have := HB.out; simp only [maxLen]; omega) (by have := HR.out.len; have := HB.out; omega) ?_; intro v' w' hv' ho' hb'; have HNX := Lib.hid (HR.out.next (j := i + 1) HV3.out.2.1 hv' HPL.out ho' hb' HPB.out (by have := HPL.out; omega) rfl); clear hv' ho' hb')
        go_roundw
        case rel => exact ⟨i + 1, _, by go_num, by omega, HNX.out, HEQ.out⟩
        case measure => simp [intOf]; omega
  · have hge : i = n := by omega
    subst hge
    have b1 : decide ((i : Int) < (i : Int)) = false := by simp
    obtain ⟨ua, uc, rfl⟩ := hvf
    have F := Lib.hid (show RdPost w (readB (tls T at_ i)) (.returned (.tuple #[.slice ua acc.length uc, .int .i64 0])) wr from by
     have he := HE.out
     rw [List.drop_eq_nil_of_le (by unfold tls; rw [List.length_take]; omega)] at he
     rw [show readB ([] : List (List Int)) = [] from rfl, List.append_nil] at he
     rw [← he]
     exact ⟨_, rfl, HR.out.v, HR.out.still, HR.out.own, HR.out.byt⟩)
    go_wp2_with fail
    go_ret2
    exact F.out
def OpGood (A : Nat → Prop) (w : World) (d at_ n : Nat) (es : List PE) (D' : PDk) (en : Ending) (w' : World) : Prop :=
 ∃ (t : Nat) (lv : Value) (es' : List PE) (A' B C : Nat → Prop), en = .returned (.tuple #[.pointer (some ⟨t, 0, none⟩), lv, .int .i64 0]) ∧ es' = es ∧
  DgX A' d D' w' ∧ TlX B t d at_ n es' es'.length w' ∧ Ents w' C lv es' ∧ Only A w w' ∧
  (∀ g, A' g → A g ∨ w.heap.size ≤ g) ∧ (∀ g, B g → w.heap.size ≤ g) ∧ (∀ g, C g → w.heap.size ≤ g ∧ g < w'.heap.size) ∧ (∀ g, A' g → ¬ B g) ∧ (∀ g, A' g → ¬ C g) ∧ ∀ g, B g → ¬ C g
def OpBad (A : Nat → Prop) (w : World) (d : Nat) (r : Int × PDk) (en : Ending) (w' : World) : Prop :=
 en = .returned (.tuple #[.pointer none, .slice none 0 0, .int .i64 r.1]) ∧ DgX (Newer A w w') d r.2 w' ∧ Only A w w'
def OpPostA (A : Nat → Prop) (w : World) (d at_ n : Nat) (D : PDk) (en : Ending) (w' : World) : Prop :=
 if (D.clean at_ (streamB (openE D at_ n)) n).1 = 0 then OpGood A w d at_ n (openE D at_ n) (D.clean at_ (streamB (openE D at_ n)) n).2 en w' else OpBad A w d (D.clean at_ (streamB (openE D at_ n)) n) en w'
set_option maxHeartbeats 4000000 in
set_option maxRecDepth 100000 in
theorem open_a {A : Nat → Prop} {w : World} {d at_ n : Nat} {D : PDk} (hd : DgX A d D w) (hq : D.dead = false) (hfn : D.fine) (hby : D.byt) (hTl : D.T.length ≤ 2000) (hn : at_ + n ≤ D.T.length) (hk : n ≤ 1000) :
 Calls Tryz.prog 11 #[.pointer (some ⟨d, 0, none⟩), .int .i64 at_, .int .i64 n] w (OpPostA A w d at_ n D) := by
 obtain ⟨tv, mb, vs, V, pp, hdk⟩ := id hd
 have htt := tiles_at hdk
 obtain ⟨T, hTT⟩ : ∃ T, D.T = T := ⟨_, rfl⟩
 have HTT := Lib.hid hTT
 rw [hTT] at htt hTl hn
 have HT := Lib.hid (htt)
 have hdd := dead_at hdk
 rw [hq] at hdd
 have HDD := Lib.hid hdd
 have HQ := Lib.hid (And.intro hq (And.intro hfn (And.intro hby hTl)))
 have HD := Lib.hid (And.intro hd (And.intro hn hk))
 have a1 : decide ((at_ : Int) < 0) = false := by simp
 have a2 : decide ((n : Int) < 0) = false := by simp
 have a3 : decide ((T.length : Int) < (at_ : Int)) = false := decide_eq_false (by omega)
 have a3' : decide (T.length < at_) = false := decide_eq_false (by omega)
 have a4 : decide ((T.length : Int) - (at_ : Int) < (n : Int)) = false := decide_eq_false (by omega)
 have u1 : IntKind.i64.wrap ((T.length : Int) - (at_ : Int)) = (T.length : Int) - (at_ : Int) := IntWalk.i64_in _ (by omega)
 clear hd hdk hdd hq hfn hby hTT htt
 go_enter Tryz.func11, Tryz.ntmps11
 go_wp2_with fail
 refine HT.out.mono ?_
 rintro en w1 ⟨rfl, rfl⟩
 go_wp2_with fail
 refine HT.out.mono ?_
 rintro en w2 ⟨rfl, rfl⟩
 go_wp2_with fail
 refine HDD.out.mono ?_
 rintro en w3 ⟨rfl, rfl⟩
 clear HT HDD a1 a2 a3 a3' a4 u1
 go_upto_region 6 with fail
 have hst : Still w3 (w3.alloc (.cells #[.pointer (some ⟨d, 0, none⟩), .int .i64 at_, .int .i64 n, .slice none 0 0, .int .i64 0, .int .i64 0] 86)) := (Still.refl w3).alloc _
 have htl := tlx_new w3 d at_ n 86 (by omega)
 have hz0 : (w3.alloc (.cells #[.pointer (some ⟨d, 0, none⟩), .int .i64 at_, .int .i64 n, .slice none 0 0, .int .i64 0, .int .i64 0] 86)).heap.size = w3.heap.size + 1 := by simp
 generalize w3.alloc (.cells #[.pointer (some ⟨d, 0, none⟩), .int .i64 at_, .int .i64 n, .slice none 0 0, .int .i64 0, .int .i64 0] 86) = W at *
 obtain ⟨t, ht⟩ : ∃ t, w3.heap.size = t := ⟨_, rfl⟩
 rw [ht] at htl
 rw [ht]
 have hdW := HD.out.1.still hst
 obtain ⟨sv, t1, -, -⟩ := htl.tl
 have HRD := Lib.hid (readG_any W t d at_ n (streamB []) sv 0 0 HTT.out HQ.out.1 t1 hdW HQ.out.2.2.2 HD.out.2.1 (by have := HQ.out.2.2.1.1; rw [HTT.out] at this; exact this))
 have H0 := Lib.hid (And.intro hst (And.intro htl (And.intro hdW (And.intro ht hz0))))
 clear hst htl hdW ht hz0 t1
 obtain ⟨b, hb⟩ : ∃ b, readB (tls T at_ n) = b := ⟨_, rfl⟩
 have hbl : b.length ≤ 63000 := by
  have h1 := readB_len (tls T at_ n)
  have h2 : (tls T at_ n).length ≤ n := by unfold tls; rw [List.length_take]; omega
  rw [hb] at h1
  have := HD.out.2.2
  omega
 rw [hb] at HRD
 have HB := Lib.hid hb
 clear hb
 go_wp2_with fail
 refine HRD.out.mono ?_
 rintro en w4 ⟨bv, rfl, hbv, hs4, ho4, hby⟩
 have HSC := Lib.hid (scan_any w4 (fun _ => True) bv b.length b (Vec.sl0 hbv (by omega)) (Vec.capOf hbv) hby (by omega))
 obtain ⟨ba, bcp, rfl⟩ := hbv.form'
 have H4 := Lib.hid (And.intro hbv (And.intro hs4 (And.intro hby ho4)))
 have HBL := Lib.hid hbl
 obtain ⟨es, hes⟩ : ∃ es, (scanB (b.length + 1) b).1 = es := ⟨_, rfl⟩
 obtain ⟨m, hm⟩ : ∃ m, (scanB (b.length + 1) b).2 = m := ⟨_, rfl⟩
 have hsi := scanB_is (b.length + 1) b hby
 have hsl := scanB_len (b.length + 1) b
 unfold ScanPost at HSC
 rw [hes, hm] at HSC hsi hsl
 have HSI := Lib.hid (And.intro hsi (And.intro hsl hes))
 have hmb : m ≤ b.length := hsl.1
 clear hbv hs4 ho4 hby HRD hsi hsl hes hm
 go_wp2_with fail
 refine HSC.out.mono ?_
 rintro en w5 ⟨lv, rfl, hen, hs5⟩
 obtain ⟨la, lc, rfl⟩ := hen.form
 have hbv5 := H4.out.1.only hs5 fun _ _ e => e
 obtain ⟨pv, -, r1, -, hpv⟩ := Go.Wh.Vec.part (P := Tryz.prog) (size := 1) 22 Tryz.underlying22 (fun w => rfl) hbv5 (Nat.zero_le m) hmb
 have r1' := r1 rfl
 have hp5 := hpv w5 hbv5
 have hpc : ((bc b).drop (0 * 1)).take ((m - 0) * 1) = bc (streamB es) := by
  rw [Nat.zero_mul, List.drop_zero, Nat.mul_one, Nat.sub_zero, bc_take, HSI.out.1.1]
 rw [hpc, Nat.sub_zero] at hp5
 obtain ⟨pa, pc, rfl⟩ := hp5.form'
 have HCL := Lib.hid (clone_big (.slice pa m pc) m (bc (streamB es)) w5 hp5.reads (bc_one _) (by have := HBL.out; omega))
 have H5 := Lib.hid (And.intro hen hs5)
 have htl5 := (H0.out.2.1.still H4.out.2.1).still hs5
 have HT5 := Lib.hid htl5
 clear hen hs5 hbv5 r1 hpv hp5 hpc HSC htl5
 go_wp2_with fail
 refine HCL.out.mono ?_
 rintro en w6 ⟨sv, rfl, hsv, hb6, ho6⟩
 have hs6 : Still w5 w6 := Only.ofBelow hb6
 obtain ⟨sa, sc, rfl⟩ := hsv.form'
 have htl6 := HT5.out.still hs6
 obtain ⟨sv0, t6, -, -⟩ := htl6.tl
 have c3 : ∃ u, w6.cell? ⟨t, 3, none⟩ = some u := ⟨_, t6.cells.cell 3⟩
 obtain ⟨u3, c3⟩ := c3
 have c4 : w6.cell? ⟨t, 4, none⟩ = some (.int .i64 ((0 : Nat) : Int)) := t6.cells.cell 4
 have c5 : w6.cell? ⟨t, 5, none⟩ = some (.int .i64 ((0 : Nat) : Int)) := t6.cells.cell 5
 have f3 := t6.cells.free 3
 have f4 := t6.cells.free 4
 have f5 := t6.cells.free 5
 have H6 := Lib.hid (And.intro hsv (And.intro hs6 (And.intro ho6 t6)))
 clear hsv hb6 ho6 hs6 htl6 t6 HCL HT5
 go_upto_region 11 with fail
 have hmS : (streamB es).length = m := by
  have := congrArg List.length HSI.out.1.1
  rw [List.length_take] at this
  omega
 have htX : TlX (fun g => g = t ∨ (Value.slice sa m sc).ownBlock = some g) t d at_ n es es.length (((w6.setCell ⟨t, 3, none⟩ (.slice sa m sc)).setCell ⟨t, 4, none⟩ (.int .i64 (es.length : Int))).setCell ⟨t, 5, none⟩ (.int .i64 (es.length : Int))) := by
  have t6 := H6.out.2.2.2
  have hzz : (((w6.setCell ⟨t, 3, none⟩ (.slice sa m sc)).setCell ⟨t, 4, none⟩ (.int .i64 (es.length : Int))).setCell ⟨t, 5, none⟩ (.int .i64 (es.length : Int))).heap.size = w6.heap.size := by simp [World.setCell]
  have hss : Only (fun b => b = t) w6 (((w6.setCell ⟨t, 3, none⟩ (.slice sa m sc)).setCell ⟨t, 4, none⟩ (.int .i64 (es.length : Int))).setCell ⟨t, 5, none⟩ (.int .i64 (es.length : Int))) := ((setCell_only w6 ⟨t, 3, none⟩ _).trans (setCell_only _ ⟨t, 4, none⟩ _)).trans (setCell_only _ ⟨t, 5, none⟩ _)
  have hlt := t6.cells.lt
  have ht5 : t < w5.heap.size := by
   have h1 := H0.out.2.2.2.1
   have h2 := H0.out.2.2.2.2
   have h3 := H4.out.2.1.size
   have h4 := H5.out.2.size
   omega
  refine ⟨⟨.slice sa m sc, ⟨((t6.cells.setCell 3 _).setCell 4 _).setCell 5 _, ?_, streamB_byt HSI.out.1.2.2, fun g hg => ?_⟩, .inl rfl, fun g hg => .inr hg⟩, fun g hg => ?_, ?_, by have := HD.out.2.2; omega, HSI.out.1.2.1, HSI.out.1.2.2, Nat.le_refl _⟩
  · rw [hmS]
    exact H6.out.1.only hss fun g hg e => by have := (H6.out.2.2.1 g hg).1; have e' : g = t := e; omega
  · rw [hzz]
    have := H6.out.2.2.1 g hg
    exact ⟨by omega, this.2⟩
  · rw [hzz]
    rcases hg with rfl | hg
    · exact hlt
    · exact (H6.out.2.2.1 g hg).2
  · rw [hmS]
    have h1 := readB_len (tls T at_ n)
    have h2 : (tls T at_ n).length ≤ n := by unfold tls; rw [List.length_take]; omega
    rw [HB.out] at h1
    have := HSI.out.2.1.1
    omega
 have hss : Still w3 (((w6.setCell ⟨t, 3, none⟩ (.slice sa m sc)).setCell ⟨t, 4, none⟩ (.int .i64 (es.length : Int))).setCell ⟨t, 5, none⟩ (.int .i64 (es.length : Int))) := by
  have h1 := ((H0.out.1.trans H4.out.2.1).trans H5.out.2).trans H6.out.2.1
  have ht := H0.out.2.2.2.1
  exact ((h1.setCell (.inr (by show w3.heap.size ≤ t; omega)) _).setCell (.inr (by show w3.heap.size ≤ t; omega)) _).setCell (.inr (by show w3.heap.size ≤ t; omega)) _
 have hz6 : (((w6.setCell ⟨t, 3, none⟩ (.slice sa m sc)).setCell ⟨t, 4, none⟩ (.int .i64 (es.length : Int))).setCell ⟨t, 5, none⟩ (.int .i64 (es.length : Int))).heap.size = w6.heap.size := by simp [World.setCell]
 have hne : Ents (((w6.setCell ⟨t, 3, none⟩ (.slice sa m sc)).setCell ⟨t, 4, none⟩ (.int .i64 (es.length : Int))).setCell ⟨t, 5, none⟩ (.int .i64 (es.length : Int))) (fun g => w4.heap.size ≤ g ∧ g < w5.heap.size) (.slice la es.length lc) es := by
  have ht4 : t < w4.heap.size := by
   have h1 := H0.out.2.2.2.1
   have h2 := H0.out.2.2.2.2
   have h3 := H4.out.2.1.size
   omega
  have hss2 : Only (fun b => b = t) w6 (((w6.setCell ⟨t, 3, none⟩ (.slice sa m sc)).setCell ⟨t, 4, none⟩ (.int .i64 (es.length : Int))).setCell ⟨t, 5, none⟩ (.int .i64 (es.length : Int))) := ((setCell_only w6 ⟨t, 3, none⟩ _).trans (setCell_only _ ⟨t, 4, none⟩ _)).trans (setCell_only _ ⟨t, 5, none⟩ _)
  exact (H5.out.1.low.still H6.out.2.1).only hss2 fun g hg e => by omega
 generalize (((w6.setCell ⟨t, 3, none⟩ (.slice sa m sc)).setCell ⟨t, 4, none⟩ (.int .i64 (es.length : Int))).setCell ⟨t, 5, none⟩ (.int .i64 (es.length : Int))) = wT at *
 have hdT := HD.out.1.still hss
 have hA3 : ∀ g, A g → g < w3.heap.size := HD.out.1.lt
 have hord : w3.heap.size = t ∧ t < w4.heap.size ∧ w4.heap.size ≤ w5.heap.size ∧ w5.heap.size ≤ w6.heap.size := by
  have h1 := H0.out.2.2.2.1
  have h2 := H0.out.2.2.2.2
  have h3 := H4.out.2.1.size
  have h4 := H5.out.2.size
  have h5 := H6.out.2.1.size
  exact ⟨h1, by omega, h4, h5⟩
 obtain ⟨sv7, e1, e2, e3⟩ := htX.tl
 have hsepA : ∀ g, (g = t ∨ (Value.slice sa m sc).ownBlock = some g) → ¬ A g := fun g e hg => by
  have := hA3 g hg
  rcases e with e | e
  · omega
  · have := (H6.out.2.2.1 g e).1
    omega
 obtain ⟨R, hR⟩ : ∃ R, D.clean at_ (streamB es) n = R := ⟨_, rfl⟩
 obtain ⟨q1, q2⟩ := R
 have HRR := Lib.hid hR
 have HCN := Lib.hid ((clean_g wT t d at_ n (streamB es) sv7 _ _ D e1 hdT ⟨hsepA t e2, fun g hg => hsepA g (e3 g hg)⟩ HQ.out.2.1 HQ.out.1 (by rw [HTT.out]; exact HQ.out.2.2.2) (by rw [HTT.out]; exact HD.out.2.1) (clN_byte HQ.out.2.2.1 (streamB_byt HSI.out.1.2.2)) (by have := htX.len; have := HD.out.2.2; omega)).mono (fun e w' h => show e = .returned (.int .i64 q1) ∧ DgX (Newer A wT w') d q2 w' ∧ Only A wT w' from by rw [HRR.out] at h; exact h))
 have HF := Lib.hid (And.intro htX (And.intro hss (And.intro hz6 (And.intro hne (And.intro hA3 hord)))))
 clear htX hss hz6 hne hA3 hord hdT c3 c4 c5 f3 f4 f5 hmS e1 e2 e3 hsepA hR
 go_wp2_with fail
 refine HCN.out.mono ?_
 rintro en w7 ⟨rfl, kd, ko⟩
 have F := Lib.hid (fun e1 (he : if q1 = 0 then e1 = Ending.returned (.tuple #[.pointer (some ⟨t, 0, none⟩), .slice la es.length lc, .int .i64 0]) else e1 = .returned (.tuple #[.pointer none, .slice none 0 0, .int .i64 q1])) => show OpPostA A w3 d at_ n D e1 w7 from by
  have hes : openE D at_ n = es := by
   unfold openE
   rw [HTT.out, HB.out, HSI.out.2.2]
  unfold OpPostA
  rw [hes, HRR.out]
  dsimp only
  obtain ⟨htX, hss, hz6, hne, hA3, o1, o2, o3, o4⟩ := HF.out
  have hz7 := ko.size
  split
  · rename_i h0
    rw [if_pos h0] at he
    refine ⟨t, .slice la es.length lc, es, Newer A wT w7, fun g => g = t ∨ (Value.slice sa m sc).ownBlock = some g, fun g => w4.heap.size ≤ g ∧ g < w5.heap.size, he, ?_, kd, ?_, ?_, ?_, ?_, ?_, ?_, ?_, ?_, ?_⟩
    · rfl
    · refine htX.only ko fun g hg e => ?_
      have := hA3 g e
      rcases hg with hg | hg
      · omega
      · have := (H6.out.2.2.1 g hg).1
        omega
    · exact hne.only ko fun g hg e => by have := hA3 g e; omega
    · exact (hss.mono fun _ e => e.elim).trans ko
    · intro g hg
      rcases hg with hg | hg
      · exact .inl hg
      · exact .inr (by omega)
    · intro g hg
      rcases hg with hg | hg
      · omega
      · have := (H6.out.2.2.1 g hg).1
        omega
    · intro g hg
      exact ⟨by omega, by omega⟩
    · intro g hg e
      rcases hg with hg | hg
      · have := hA3 g hg
        rcases e with e | e
        · omega
        · have := (H6.out.2.2.1 g e).1
          omega
      · rcases e with e | e
        · omega
        · have := (H6.out.2.2.1 g e).2
          omega
    · intro g hg e
      rcases hg with hg | hg
      · have := hA3 g hg
        omega
      · omega
    · intro g hg e
      rcases hg with hg | hg
      · omega
      · have := (H6.out.2.2.1 g hg).1
        omega
  · rename_i h0
    rw [if_neg h0] at he
    refine ⟨he, DgX.grow kd (fun g hg => ?_) (fun g hg => ?_), (hss.mono fun _ e => e.elim).trans ko⟩
    · rcases hg with hg | hg
      · exact .inl hg
      · exact .inr ⟨by omega, hg.2⟩
    · rcases hg with hg | hg
      · have := hA3 g hg
        omega
      · exact hg.2)
 clear kd ko HCN
 by_cases h0 : q1 = 0
 · subst h0
   have F2 := Lib.hid (F.out _ (by rw [if_pos rfl]))
   clear F
   go_wp2_with fail
   go_ret3
   exact F2.out
 · have F2 := Lib.hid (F.out _ (by rw [if_neg h0]))
   have qe : (q1 == 0) = false := by rw [beq_eq_false_iff_ne]; exact h0
   have hrn : ¬ q1 = 0 := h0
   clear F h0
   go_wp2_with fail
   go_ret3
   exact F2.out
end Go.Proofs.YtlcfoeikamkpmaaGreat

namespace Go.Proofs.YtlcfoeikamkpmaaGreat
open Go.RowKit Go.Wh Go.Maps

section
variable {A B : Nat → Prop} {w : World} {d : Nat} {D : PDk}
set_option maxHeartbeats 1000000 in
theorem write_no {mb : Nat} {tv : Value} {vs : List Value} {V : Int → Option Value} {pp : Option Nat} (h : DgAt A w d D tv mb vs V pp) (z : Int) (bv : Value) (hz : D.may z ≠ 0) :
 Calls Tryz.prog 14 #[.pointer (some ⟨d, 0, none⟩), .int .i64 z, bv] w (SamePost w (.int .i64 (D.may z))) := by
 have HM := Lib.hid (may_at h z)
 obtain ⟨q, hq⟩ : ∃ q, D.may z = q := ⟨_, rfl⟩
 rw [hq] at hz HM ⊢
 have qe : (q == 0) = false := by rw [beq_eq_false_iff_ne]; exact hz
 have hrn : ¬ q = 0 := hz
 clear h hz hq
 go_enter Tryz.func14, Tryz.ntmps14
 go_wp2_with fail
 refine HM.out.mono ?_
 rintro e w1 ⟨rfl, rfl⟩
 go_wp2_with fail
 go_ret
 exact ⟨rfl, rfl⟩
theorem dwrite_any (h : DgX A d D w) (hf : D.fine) (hT : D.T.length ≤ 2000) (z : Int) (l : List Int) (bv : Value) (hb : Reads w 1 bv 64 (bc l)) (hbm : ∀ g, bv.ownBlock = some g → ¬ A g) :
 Calls Tryz.prog 14 #[.pointer (some ⟨d, 0, none⟩), .int .i64 z, bv] w (DgPostN A w d (D.put z l)) := by
 obtain ⟨tv, mb, vs, V, pp, hd⟩ := id h
 unfold PDk.put
 by_cases hm : D.may z = 0
 · rw [if_neg (by rw [hm]; decide)]
   have hr : D.dead = false ∧ 0 ≤ z ∧ z < D.T.length := by
    unfold PDk.may at hm
    cases hq : D.dead with
    | true => rw [hq] at hm; simp at hm
    | false =>
     rw [hq] at hm
     simp only [Bool.false_eq_true, if_false] at hm
     split at hm
     · cases hm
     · exact ⟨rfl, by omega, by omega⟩
   obtain ⟨i, rfl⟩ : ∃ i : Nat, z = (i : Int) := ⟨z.toNat, by omega⟩
   rw [Int.toNat_natCast]
   exact write_at hd hr.1 hf i l bv (by omega) hT hb fun g hg e => hbm g hg (hd.mu g e)
 · rw [if_pos hm]
   refine (write_no hd z bv hm).mono ?_
   rintro e w' ⟨rfl, rfl⟩
   exact ⟨rfl, h.grow (fun g hg => .inl hg) fun g hg => by
    rcases hg with hg | hg
    · exact hd.lt g hg
    · exact hg.2, Only.refl _ _⟩
set_option maxHeartbeats 1000000 in
theorem read_dead (h : DgX A d D w) (hq : D.dead = true) (z : Int) :
 Calls Tryz.prog 31 #[.pointer (some ⟨d, 0, none⟩), .int .i64 z] w (SamePost w (.tuple #[.slice none 0 0, .int .i64 2])) := by
 obtain ⟨tv, mb, vs, V, pp, hd⟩ := id h
 have HM := Lib.hid (may_at hd z)
 have hm : D.may z = 2 := by
  unfold PDk.may
  rw [if_pos hq]
 rw [hm] at HM
 clear h hd hm hq
 go_enter Tryz.func31, Tryz.ntmps31
 go_wp2_with fail
 refine HM.out.mono ?_
 rintro e w1 ⟨rfl, rfl⟩
 go_wp2_with fail
 go_ret2
 exact ⟨rfl, rfl⟩
set_option maxHeartbeats 2000000 in
set_option maxRecDepth 100000 in
theorem clean_dead (w : World) (t at_ n : Nat) (S : List Int) (sv : Value) (c st : Nat) (h : TlAt w t d at_ n S sv c st) (hd : DgX A d D w) (hq : D.dead = true) (hn : 0 < n) (ha : at_ ≤ 2000) :
 Calls Tryz.prog 37 #[.pointer (some ⟨t, 0, none⟩)] w (StPost w (.int .i64 2)) := by
 have H := Lib.hid h
 have HD := Lib.hid (And.intro hd hq)
 have HN := Lib.hid (And.intro hn ha)
 have c2 : w.cell? ⟨t, 2, none⟩ = some (.int .i64 n) := h.cells.cell 2
 have SS := Lib.hid (fun w' (ho : Still w w') => show w'.cell? ⟨t, 0, none⟩ = some (.pointer (some ⟨d, 0, none⟩)) ∧ w'.cell? ⟨t, 1, none⟩ = some (.int .i64 at_) from ⟨(h.still ho).cells.cell 0, (h.still ho).cells.cell 1⟩)
 clear h hd hq hn ha
 go_enter Tryz.func37, Tryz.ntmps37
 go_wp2_with fail
 go_loopw [3, 13] (fun s3 s13 wr => s13 = .int .i64 0 ∧ s3 = .bool false ∧ Still w wr) (fun _ s13 _ => 0)
 case atStart => exact ⟨rfl, rfl, Still.refl _⟩
 obtain ⟨rfl, rfl, hst⟩ := hrel
 have HST := Lib.hid hst
 obtain ⟨c0, c1⟩ := SS.out _ hst
 have b1 : decide ((0 : Int) < (n : Int)) = true := by have := HN.out; simp; omega
 have b2 : decide (0 < n) = true := by have := HN.out; simp; omega
 have u8 : IntKind.i64.wrap (at_ : Int) = (at_ : Int) := IntWalk.i64_in _ (by have := HN.out; omega)
 have HRD := Lib.hid (fun w' (hs : Still wr w') (z : Int) => read_dead (HD.out.1.still (hst.trans hs)) HD.out.2 z)
 have HS := Lib.hid (Still.refl wr)
 have SSR := Lib.hid (fun w' (hs : Still wr w') => SS.out w' (HST.out.trans hs))
 clear hst c2
 go_wp2_with fail
 go_region_held3 (fun w' => w'.cell? ⟨t, 0, none⟩ = some (.pointer (some ⟨d, 0, none⟩)) ∧ w'.cell? ⟨t, 1, none⟩ = some (.int .i64 at_)) (first | exact ⟨c0, c1⟩ | exact SSR.out _ (by assumption))
  (first | (go_at_call 31; (with_reducible refine (HRD.out _ HS.out.drew _).mono ?_); rintro e w3 ⟨rfl, rfl⟩; have hs3' : Still wr wr.drew := HS.out.drew))
 have F := Lib.hid (show StPost w (.int .i64 2) (.returned (.int .i64 2)) wr.drew from ⟨rfl, HST.out.drew⟩)
 clear hs3'
 go_wp2_with fail
 go_ret
 exact F.out
set_option maxHeartbeats 2000000 in
set_option maxRecDepth 100000 in
theorem force_dead {t at_ n st : Nat} {es : List PE} (h : TlX B t d at_ n es st w) (hd : DgX A d D w) (hq : D.dead = true) (hn : 0 < n) (ha : at_ ≤ 2000) (hs : ¬ st = es.length) :
 Calls Tryz.prog 86 #[.pointer (some ⟨t, 0, none⟩)] w (StPost w (.int .i64 2)) := by
 obtain ⟨sv, h1, h2, h3⟩ := h.tl
 have c4 : w.cell? ⟨t, 4, none⟩ = some (.int .i64 es.length) := h1.cells.cell 4
 have c5 : w.cell? ⟨t, 5, none⟩ = some (.int .i64 st) := h1.cells.cell 5
 have hqq : ((st : Int) == (es.length : Int)) = false := by simp; omega
 have HC := Lib.hid (fun w' (k : Still w w') => clean_dead w' t at_ n (streamB es) sv _ _ (h1.still k) (hd.still k) hq hn ha)
 clear h hd h1 h2 h3 hs hq hn ha
 go_enter Tryz.func86, Tryz.ntmps86
 go_wp2_with fail
 go_quiet (fail)
 have hs2 : Still w (w.drewN nq) := (Still.refl w).drewN _
 have HS2 := Lib.hid hs2
 clear hs2
 go_wp2_with fail
 refine (HC.out _ HS2.out).mono ?_
 rintro en w3 ⟨rfl, k1⟩
 have F := Lib.hid (show StPost w (.int .i64 2) (.returned (.int .i64 2)) w3 from ⟨rfl, HS2.out.trans k1⟩)
 clear k1 HC
 go_wp2_with fail
 go_ret
 exact F.out
def FoPostA (A B : Nat → Prop) (w : World) (t d at_ n : Nat) (es : List PE) (r : Int × PDk × Nat) (en : Ending) (w' : World) : Prop :=
 en = .returned (.int .i64 r.1) ∧ TlX B t d at_ n es r.2.2 w' ∧ DgX (Newer A w w') d r.2.1 w' ∧ Only (fun b => A b ∨ B b) w w'
theorem DgX.newer (h : DgX A d D w) {w' : World} (hs : Still w w') : DgX (Newer A w w') d D w' :=
 (h.still hs).grow (fun g hg => .inl hg) fun g hg => by
  rcases hg with hg | hg
  · exact Nat.lt_of_lt_of_le (h.lt g hg) hs.size
  · exact hg.2
theorem force_a {t at_ n st : Nat} {es : List PE} (h : TlX B t d at_ n es st w) (hd : DgX A d D w) (hab : ∀ g, A g → ¬ B g) (hf : D.fine) (hb : D.byt) (hT : D.T.length ≤ 2000) (hn : at_ + n ≤ D.T.length) (hn0 : ¬ st = es.length → 0 < n) :
 Calls Tryz.prog 86 #[.pointer (some ⟨t, 0, none⟩)] w (FoPostA A B w t d at_ n es (foB D at_ (streamB es) n es.length st)) := by
 unfold foB
 by_cases hs : st = es.length
 · rw [if_pos hs]
   refine (force_same h hs).mono ?_
   rintro en w' ⟨rfl, k⟩
   exact ⟨rfl, h.still k, hd.newer k, k.mono fun _ e => e.elim⟩
 · rw [if_neg hs]
   by_cases hq : D.dead = true
   · rw [if_pos hq]
     refine (force_dead h hd hq (hn0 hs) (by omega) hs).mono ?_
     rintro en w' ⟨rfl, k⟩
     exact ⟨rfl, h.still k, hd.newer k, k.mono fun _ e => e.elim⟩
   · rw [if_neg hq]
     exact force_g h hd hab (by simpa using hq) hf hb hT hn hs
end
end Go.Proofs.YtlcfoeikamkpmaaGreat

namespace Go.Proofs.YtlcfoeikamkpmaaGreat
open Go.Wh

theorem PDk.sync_len {D : PDk} : D.sync.2.T.length = D.T.length := by
 unfold PDk.sync
 split
 · rfl
 · split
   · exact crashN_length
   · rfl
theorem PDk.clean_len {D : PDk} {at_ n : Nat} {S : List Int} : (D.clean at_ S n).2.T.length = D.T.length := by
 unfold PDk.clean
 split
 · exact clN_len n
 · split
   · rw [PDk.sync_len]
     exact clN_len n
   · exact clN_len n
theorem PDk.clean_fine {D : PDk} {at_ n : Nat} {S : List Int} (hf : D.fine) (hq : D.dead = false) : (D.clean at_ S n).2.fine := by
 by_cases h : (D.clean at_ S n).1 = 0
 · unfold PDk.clean at h ⊢
   split at h
   · rename_i he
     exact absurd h he
   · rename_i he
     have he : (clN D at_ S n).1 = 0 := by
      by_cases hx : (clN D at_ S n).1 = 0
      · exact hx
      · exact absurd hx he
     have hok := clN_ok (S := S) (at_ := at_) hf hq n he
     rw [if_neg (by rw [he]; decide)]
     split at h
     · rename_i ha
       rw [if_pos ha]
       exact (PDk.sync_ok hok.1 hok.2 h).1
     · rename_i ha
       rw [if_neg ha]
       exact hok.1
 · exact PDk.fine_none (PDk.clean_cut hf hq h).2.1
theorem PDk.done_fine {D : PDk} (hf : D.fine) (hq : D.dead = false) : D.done.2.fine := by
 by_cases h : D.done.1 = 0
 · exact (PDk.done_ok hf hq h).1
 · exact PDk.fine_none (PDk.done_cut h).2.1
theorem PDk.put_fine {D : PDk} {z : Int} {l : List Int} (hf : D.fine) : (D.put z l).2.fine := by
 unfold PDk.put
 split
 · exact hf
 · rename_i h
   refine PDk.done_fine (PDk.laid_fine hf) ?_
   unfold PDk.may at h
   cases hq : D.dead with
   | true => rw [hq] at h; exact absurd (by simp) h
   | false => exact hq
theorem PDk.put_byt {D : PDk} {z : Int} {l : List Int} (hb : D.byt) (hl : Byt l) : (D.put z l).2.byt := by
 unfold PDk.put
 split
 · exact hb
 · exact PDk.byt_done (PDk.byt_laid hb hl)
theorem PDk.put_len {D : PDk} {z : Int} {l : List Int} : (D.put z l).2.T.length = D.T.length := by
 unfold PDk.put
 split
 · rfl
 · rw [PDk.done_T]
   exact List.length_set
theorem foB_fine {D : PDk} {at_ n c st : Nat} {S : List Int} (hf : D.fine) : (foB D at_ S n c st).2.1.fine := by
 unfold foB
 split
 · exact hf
 · split
   · exact hf
   · rename_i h
     exact PDk.clean_fine hf (by simpa using h)
theorem foB_byt {D : PDk} {at_ n c st : Nat} {S : List Int} (hb : D.byt) (hS : Byt S) : (foB D at_ S n c st).2.1.byt := by
 unfold foB
 split
 · exact hb
 · split
   · exact hb
   · exact PDk.byt_clean hb hS
theorem foB_len {D : PDk} {at_ n c st : Nat} {S : List Int} : (foB D at_ S n c st).2.1.T.length = D.T.length := by
 unfold foB
 split
 · rfl
 · split
   · rfl
   · exact PDk.clean_len
end Go.Proofs.YtlcfoeikamkpmaaGreat

namespace Go.Proofs.YtlcfoeikamkpmaaGreat
open Go.RowKit Go.Wh Go.Maps

theorem PDk.sync_fine {D : PDk} (hf : D.fine) (hq : D.dead = false) : D.sync.2.fine := by
 by_cases h0 : D.sync.1 = 0
 · exact (PDk.sync_ok hf hq h0).1
 · unfold PDk.sync at h0 ⊢
   rw [if_neg (by rw [hq]; decide)] at h0 ⊢
   by_cases hc : D.cuts = true
   · rw [if_pos hc]
     exact PDk.fine_none rfl
   · rw [if_neg hc] at h0
     exact absurd rfl h0
def FrIs (w : World) (Q : Nat → Prop) (v : List Value) (f : PFr) : Prop :=
 ∃ v0 v1 v2 v3, v = [v0, v1, v2, v3, .int .i64 f.p.lsn, .bool f.dirty, .int .i64 f.rec_] ∧ PgIs w Q [v0, v1, v2, v3] f.p.c
theorem FrIs.only {w w' : World} {Q X : Nat → Prop} {v : List Value} {f : PFr} (h : FrIs w Q v f) (ho : Only X w w') (hq : ∀ g, Q g → ¬ X g) : FrIs w' Q v f := by
 obtain ⟨v0, v1, v2, v3, e, hp⟩ := h
 exact ⟨v0, v1, v2, v3, e, hp.only ho hq⟩
theorem FrIs.mono {w : World} {Q R : Nat → Prop} {v : List Value} {f : PFr} (h : FrIs w Q v f) (hr : ∀ g, Q g → R g) : FrIs w R v f := by
 obtain ⟨v0, v1, v2, v3, e, hp⟩ := h
 exact ⟨v0, v1, v2, v3, e, hp.mono hr⟩
theorem FrIs.one {w : World} {Q : Nat → Prop} {v : List Value} {f : PFr} (h : FrIs w Q v f) : v.length = 7 ∧ ∀ u ∈ v, u.oneCell' = true := by
 obtain ⟨v0, v1, v2, v3, rfl, hp⟩ := h
 have := pg_one hp
 refine ⟨rfl, fun u hu => ?_⟩
 simp only [List.mem_cons, List.not_mem_nil, or_false] at hu
 rcases hu with rfl | rfl | rfl | rfl | rfl | rfl | rfl
 · exact this _ (by simp)
 · exact this _ (by simp)
 · exact this _ (by simp)
 · exact this _ (by simp)
 · rfl
 · rfl
 · rfl
theorem FrIs.void {w : World} {Q : Nat → Prop} : FrIs w Q frZ PFr.void := by
 refine ⟨_, _, _, _, rfl, ⟨rfl, rfl, fun i v l h1 h2 => ?_⟩⟩
 have hi := (List.getElem?_eq_some_iff.1 h1).1
 rcases (show i = 0 ∨ i = 1 ∨ i = 2 ∨ i = 3 from by simp at hi; omega) with rfl | rfl | rfl | rfl <;> (cases h1; cases h2; exact Sl.nil)
structure Dt (c : Nat → Nat) (a b : Nat) (w : World) (d : Nat) (t : Option Nat) (cf : PCf) (s : PSt) : Prop where
 low : Low c w
 dk : DgX (Cs c a) d s.D w
 tr : ∀ t', t = some t' → TlX (Cs c b) t' d cf.at_ cf.n s.es s.st w
 trf : cf.tr = t.isSome
 fine : s.D.fine
 byt : s.D.byt
 len : s.D.T.length ≤ 2000
 trl : cf.tr = true → cf.at_ + cf.n ≤ s.D.T.length ∧ 0 < cf.n
 fit : cf.first + 2 * cf.pages ≤ s.D.T.length
structure Dif (a b m r : Nat) : Prop where
 a0 : a ≠ 0
 b0 : b ≠ 0
 m0 : m ≠ 0
 r0 : r ≠ 0
 ab : a ≠ b
 am : a ≠ m
 ar : a ≠ r
 bm : b ≠ m
 br : b ≠ r
 mr : m ≠ r
section
variable {X K : Nat → Prop} {c c' : Nat → Nat} {a b m r : Nat} {w w' : World} {d : Nat} {t : Option Nat} {cf : PCf} {s : PSt}
theorem Dt.keep (h : Dt c a b w d t cf s) (hs : Stp X K c c' w w') (xa : ¬ X a) (xb : ¬ X b) (ka : ¬ K a) (kb : ¬ K b) (a0 : a ≠ 0) (b0 : b ≠ 0) : Dt c' a b w' d t cf s := by
 have ea := hs.same h.low a0 ka
 have eb := hs.same h.low b0 kb
 refine ⟨hs.low, ?_, fun t' e => ?_, h.trf, h.fine, h.byt, h.len, h.trl, h.fit⟩
 · rw [ea]
   exact h.dk.only hs.only (hs.off xa)
 · rw [eb]
   exact (h.tr t' e).only hs.only (hs.off xb)
theorem Dt.still (h : Dt c a b w d t cf s) (hs : Still w w') (a0 : a ≠ 0) (b0 : b ≠ 0) : Dt c a b w' d t cf s :=
 h.keep (X := fun _ => False) (K := fun _ => False) (Stp.still h.low hs) (fun e => e) (fun e => e) (fun e => e) (fun e => e) a0 b0
theorem Dt.hand (h : Dt c a b w d t cf s) (H : Hd PFr) : Dt c a b w d t cf { s with H := H } := ⟨h.low, h.dk, h.tr, h.trf, h.fine, h.byt, h.len, h.trl, h.fit⟩
structure PoAt (c : Nat → Nat) (m r : Nat) (w : World) (pb d : Nat) (t : Option Nat) (cf : PCf) (H : Hd PFr) : Prop where
 ex : ∃ (hb g o n cap : Nat) (Hv : Hd (List Value)), cellsAt w pb [.pointer (some ⟨d, 0, none⟩), ptrV t, .int .i64 (cf.first : Nat), .int .i64 (cf.pages : Nat), .pointer (some ⟨hb, 0, none⟩)] ∧
  HdAt w hb g o n cap Hv ∧ HdR (FrIs w (Cs c r)) Hv H ∧ c pb = m ∧ c hb = m ∧ c g = m ∧ pb ≠ hb ∧ pb ≠ g
 ok : ∀ x ∈ H.l, x.v.p.ok ∧ 0 ≤ x.k ∧ x.k ≤ cf.pages
theorem HdR.mono {V U : Type} {R R' : V → U → Prop} {h : Hd V} {g : Hd U} (k : HdR R h g) (hr : ∀ a b, R a b → R' a b) : HdR R' h g := ⟨k.1.mono hr, k.2⟩
theorem PoAt.keep {pb : Nat} {H : Hd PFr} (h : PoAt c m r w pb d t cf H) (hl : Low c w) (hs : Stp X K c c' w w') (xm : ¬ X m) (xr : ¬ X r) (kr : ¬ K r) (m0 : m ≠ 0) (r0 : r ≠ 0) : PoAt c' m r w' pb d t cf H := by
 obtain ⟨⟨hb, g, o, n, cap, Hv, h1, h2, h3, h4, h5, h6, h7, h8⟩, h9⟩ := h
 have er := hs.same hl r0 kr
 have em : ∀ x, c x = m → c' x = m := fun x e => hs.sub hl m0 x e
 have om : ∀ x, c x = m → ¬ X (c x) := fun x e => by rw [e]; exact xm
 refine ⟨⟨hb, g, o, n, cap, Hv, h1.only hs.only (om pb h4), h2.only hs.only (om hb h5) (om g h6), ?_, em _ h4, em _ h5, em _ h6, h7, h8⟩, h9⟩
 rw [er]
 exact h3.mono fun v f hf => hf.only hs.only (hs.off xr)
theorem PoAt.still {pb : Nat} {H : Hd PFr} (h : PoAt c m r w pb d t cf H) (hl : Low c w) (hs : Still w w') (m0 : m ≠ 0) (r0 : r ≠ 0) : PoAt c m r w' pb d t cf H :=
 h.keep (X := fun _ => False) (K := fun _ => False) hl (Stp.still hl hs) (fun e => e) (fun e => e) (fun e => e) m0 r0
end
def DtPost (c : Nat → Nat) (a b : Nat) (w : World) (d : Nat) (t : Option Nat) (cf : PCf) (r : Int × PSt) (e : Ending) (w' : World) : Prop :=
 e = .returned (.int .i64 r.1) ∧ ∃ c', Stp (fun i => i = a ∨ i = b) (fun i => i = a) c c' w w' ∧ Dt c' a b w' d t cf r.2
section
variable {c : Nat → Nat} {a b : Nat} {w : World} {d : Nat} {t : Option Nat} {cf : PCf} {s : PSt}
theorem dt_force {t' : Nat} (h : Dt c a b w d (some t') cf s) (a0 : a ≠ 0) (b0 : b ≠ 0) (ab : a ≠ b) :
 Calls Tryz.prog 86 #[.pointer (some ⟨t', 0, none⟩)] w (DtPost c a b w d (some t') cf (s.force cf)) := by
 have ht := h.tr t' rfl
 have htf : cf.tr = true := h.trf
 obtain ⟨hn, hn0⟩ := h.trl htf
 have hS : Byt (streamB s.es) := streamB_byt ht.byt
 refine (force_a ht h.dk (fun g e1 e2 => by have e1' : c g = a := e1; have e2' : c g = b := e2; omega) h.fine h.byt h.len hn fun _ => hn0).mono ?_
 rintro en w' ⟨rfl, k1, k2, k3⟩
 refine ⟨rfl, recol c w w' a, Stp.newX h.low (k3.mono fun g hg => hg) rfl, ?_⟩
 have hlow : Low (recol c w w' a) w' := (Stp.newX (X := fun i => i = a ∨ i = b) (K := fun i => i = a) (i := a) h.low (k3.mono fun g hg => hg) rfl).low
 refine ⟨hlow, ?_, fun t2 e => ?_, h.trf, foB_fine h.fine, foB_byt h.byt hS, ?_, fun e => ⟨?_, hn0⟩, ?_⟩
 · rw [recol_new h.low a0]
   exact k2
 · cases e
   rw [recol_old h.low b0 (Ne.symm ab)]
   exact k1
 · show (foB s.D cf.at_ (streamB s.es) cf.n s.es.length s.st).2.1.T.length ≤ 2000
   rw [foB_len]
   exact h.len
 · show cf.at_ + cf.n ≤ (foB s.D cf.at_ (streamB s.es) cf.n s.es.length s.st).2.1.T.length
   rw [foB_len]
   exact hn
 · show cf.first + 2 * cf.pages ≤ (foB s.D cf.at_ (streamB s.es) cf.n s.es.length s.st).2.1.T.length
   rw [foB_len]
   exact h.fit
theorem Dt.ofPut (h : Dt c a b w d t cf s) {w' : World} {z : Int} {l : List Int} (hl : Byt l) (k2 : DgX (Newer (Cs c a) w w') d (s.D.put z l).2 w') (k3 : Only (Cs c a) w w') (a0 : a ≠ 0) (b0 : b ≠ 0) (ab : a ≠ b) :
 ∃ c', Stp (fun i => i = a ∨ i = b) (fun i => i = a) c c' w w' ∧ Dt c' a b w' d t cf { s with D := (s.D.put z l).2 } := by
 have hst := Stp.newer (X := fun i => i = a ∨ i = b) (K := fun i => i = a) h.low k3 (.inl rfl) rfl
 refine ⟨_, hst, hst.low, ?_, fun t2 e => ?_, h.trf, PDk.put_fine h.fine, PDk.put_byt h.byt hl, ?_, fun e => ?_, ?_⟩
 · rw [recol_new h.low a0]
   exact k2
 · rw [recol_old h.low b0 (Ne.symm ab)]
   exact (h.tr t2 e).only k3 fun g e1 e2 => by have e1' : c g = b := e1; have e2' : c g = a := e2; omega
 · show (s.D.put z l).2.T.length ≤ 2000
   rw [PDk.put_len]
   exact h.len
 · show cf.at_ + cf.n ≤ (s.D.put z l).2.T.length ∧ _
   rw [PDk.put_len]
   exact h.trl e
 · show cf.first + 2 * cf.pages ≤ (s.D.put z l).2.T.length
   rw [PDk.put_len]
   exact h.fit
theorem dt_sync (h : Dt c a b w d t cf s) (ab : a ≠ b) :
 Calls Tryz.prog 69 #[.pointer (some ⟨d, 0, none⟩)] w (DtPost c a b w d t cf (s.D.sync.1, { s with D := s.D.sync.2 })) := by
 obtain ⟨tv, mb, vs, V, pp, hd⟩ := id h.dk
 refine (sync_at hd h.fine h.len).mono ?_
 rintro e w' ⟨rfl, k1, k2⟩
 have hst := Stp.own (X := fun i => i = a ∨ i = b) (K := fun i => i = a) h.low k2 (.inl rfl)
 refine ⟨rfl, c, hst, hst.low, k1, fun t2 e => (h.tr t2 e).only k2 fun g e1 e2 => by have e1' : c g = b := e1; have e2' : c g = a := e2; omega, h.trf, ?_, PDk.byt_sync h.byt, ?_, fun e => ?_, ?_⟩
 · by_cases hq : s.D.dead = true
   · show s.D.sync.2.fine
     unfold PDk.sync
     rw [if_pos hq]
     exact h.fine
   · exact PDk.sync_fine h.fine (by simpa using hq)
 · show s.D.sync.2.T.length ≤ 2000
   rw [PDk.sync_len]
   exact h.len
 · show cf.at_ + cf.n ≤ s.D.sync.2.T.length ∧ _
   rw [PDk.sync_len]
   exact h.trl e
 · show cf.first + 2 * cf.pages ≤ s.D.sync.2.T.length
   rw [PDk.sync_len]
   exact h.fit
end
end Go.Proofs.YtlcfoeikamkpmaaGreat
