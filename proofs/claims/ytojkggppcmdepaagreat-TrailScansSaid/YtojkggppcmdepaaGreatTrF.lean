/- A trail: what its tiles say. Conditions: it and the disk lie in memory; its tiles are the disk's, bytes. -/
import Derived.Test.YtojkggppcmdepaaGreatTrE
namespace Go.Proofs.YtojkggppcmdepaaGreat
open Go.RowKit Go.Wh Go.Maps

theorem readB_cons (s : List Int) (l : List (List Int)) : readB (s :: l) = if 63 < s.headD 0 then [] else (s.drop 1).take (s.headD 0).toNat ++ (if s.headD 0 < 63 then [] else readB l) := rfl

/-- Tiles of the disk. -/
def tls (T : List (List Int)) (a n : Nat) : List (List Int) := (T.drop a).take n
theorem tls_get {T : List (List Int)} {a n i : Nat} {l : List Int} (h : T[a + i]? = some l) (hi : i < n) : (tls T a n).drop i = l :: (tls T a n).drop (i + 1) := by
  have h1 : (tls T a n)[i]? = some l := by
    unfold tls
    rw [List.getElem?_take, if_pos hi, List.getElem?_drop]
    exact h
  obtain ⟨hl, he⟩ := List.getElem?_eq_some_iff.1 h1
  rw [List.drop_eq_getElem_cons hl, he]

/-- On the way: what has been read. -/
structure RdRel (w : World) (i : Nat) (u : Value) (acc : List Int) (wr : World) : Prop where
  v : Vec wr 1 u acc.length (bc acc)
  still : Still w wr
  own : ∀ g, u.ownBlock = some g → w.heap.size ≤ g ∧ g < wr.heap.size
  byt : Byt acc
  len : acc.length ≤ 63 * i

theorem RdRel.next {w wr w1 w2 : World} {i : Nat} {u v' : Value} {acc part : List Int} {X : Nat} (h : RdRel w i u acc wr) (hs : Still wr w1) (hv : Vec w2 1 v' (acc.length + X) (bc acc ++ bc part)) (hX : part.length = X) (ho : Only (fun k => u.ownBlock = some k) w1 w2)
    (hb : v'.ownBlock = u.ownBlock ∨ ∃ g, v'.ownBlock = some g ∧ w1.heap.size ≤ g ∧ g < w2.heap.size) (hp : Byt part) (hl : part.length ≤ 63) {j : Nat} (hj : i + 1 = j) : RdRel w j v' (acc ++ part) w2 := by
  have z1 := h.still.size
  have z2 := hs.size
  have z3 := ho.size
  have h1 := h.still.trans hs
  refine ⟨?_, h1.andThen ho fun k hk e => by have := (h.own k e).1; omega, fun g hg => ?_, h.byt.append hp, ?_⟩
  · rw [List.length_append, hX, bc_append]
    exact hv
  · rcases hb with e | ⟨g', e, e1, e2⟩
    · rw [e] at hg
      have := h.own g hg
      omega
    · rw [e] at hg
      injection hg with hg
      omega
  · rw [List.length_append]
    have := h.len
    omega

def RdPost (w : World) (B : List Int) (e : Ending) (w' : World) : Prop := ∃ v, e = .returned (.tuple #[v, .int .i64 0]) ∧ Vec w' 1 v B.length (bc B) ∧ Still w w' ∧ (∀ g, v.ownBlock = some g → w.heap.size ≤ g ∧ g < w'.heap.size) ∧ Byt B

set_option maxHeartbeats 2000000 in
set_option maxRecDepth 100000 in
theorem readT_any (w : World) (t d at_ n : Nat) (S : List Int) (sv : Value) (c st : Nat) (T : List (List Int)) (tv : Value) (mb : Nat) (vs : List Value) (h : TlAt w t d at_ n S sv c st) (hd : DkAt w d T tv mb vs) (hT : T.length ≤ 2000) (hn : at_ + n ≤ T.length) (hb : ∀ l ∈ T, Byt l) :
    Calls Tryz.prog 43 #[.pointer (some ⟨t, 0, none⟩)] w (RdPost w (readB (tls T at_ n))) := by
  have H := Lib.hid h
  have HDK := Lib.hid hd
  have HB := Lib.hid (And.intro hT (And.intro hn hb))
  have c0 : w.cell? ⟨t, 0, none⟩ = some (.pointer (some ⟨d, 0, none⟩)) := h.cells.cell 0
  have c1 : w.cell? ⟨t, 1, none⟩ = some (.int .i64 at_) := h.cells.cell 1
  have c2 : w.cell? ⟨t, 2, none⟩ = some (.int .i64 n) := h.cells.cell 2
  have SS := Lib.hid (fun w' (hs : Still w w') => show w'.cell? ⟨t, 0, none⟩ = some (.pointer (some ⟨d, 0, none⟩)) ∧ w'.cell? ⟨t, 1, none⟩ = some (.int .i64 at_) from ⟨Still.cell hs c0, Still.cell hs c1⟩)
  obtain ⟨i0, hi0, hz0, hz1, hz2⟩ := info_parts info_b
  have HI := Lib.hid (And.intro hi0 (And.intro hz0 (And.intro hz1 hz2)))
  clear h hd hT hn hb hi0 hz0 hz1 hz2 c0 c1
  go_enter Tryz.func43, Tryz.ntmps43
  go_wp2_with fail
  go_loopw [2, 12] (fun s2 s12 wr => ∃ (i : Nat) (acc : List Int), s12 = .int .i64 i ∧ i ≤ n ∧ RdRel w i s2 acc wr ∧ acc ++ readB ((tls T at_ n).drop i) = readB (tls T at_ n)) (fun _ s12 _ => n - (intOf s12).toNat)
  case atStart => exact ⟨0, [], rfl, Nat.zero_le _, ⟨Vec.nil _ _, Still.refl _, (fun g e => by cases e), (fun z hz => by cases hz), Nat.le_refl _⟩, by simp⟩
  case round =>
    obtain ⟨i, acc, rfl, hin, hr, hre⟩ := hrel
    have HE := Lib.hid hre
    clear hre
    have HR := Lib.hid hr
    have hvf := hr.v.form'
    have hst := hr.still
    obtain ⟨c0, c1⟩ := SS.out _ hst
    clear hr
    by_cases hi : i < n
    · obtain ⟨l, hl⟩ : ∃ l, T[at_ + i]? = some l := ⟨_, List.getElem?_eq_getElem (by have := HB.out.2.1; omega)⟩
      have HRD := Lib.hid (fun w' (hs : Still wr w') => show Calls Tryz.prog 83 #[.pointer (some ⟨d, 0, none⟩), .int .i64 ((at_ : Int) + (i : Int))] w' (fun e w'' => ∃ v, e = .returned (.tuple #[v, .int .i64 0]) ∧ Vec w'' 1 v 64 (bc l) ∧ Still w' w'' ∧ ∀ g, v.ownBlock = some g → w'.heap.size ≤ g ∧ g < w''.heap.size) from by
        have := read_any w' d T tv mb vs (at_ + i) l (HDK.out.still (hst.trans hs)) hl
        rwa [Int.natCast_add] at this)
      have hl64 := HDK.out.lens hl
      have hlb := HB.out.2.2 l (List.mem_of_getElem? hl)
      have htl := tls_get (n := n) hl hi
      have HT := Lib.hid (And.intro htl (And.intro hl64 hlb))
      have b1 : decide ((i : Int) < (n : Int)) = true := by simp; omega
      have b2 : decide (i < n) = true := by simp; omega
      have u9 : IntKind.i64.wrap ((i : Int) + 1) = (i : Int) + 1 := IntWalk.i64_in _ (by have := HB.out; omega)
      have u8 : IntKind.i64.wrap ((at_ : Int) + (i : Int)) = (at_ : Int) + (i : Int) := IntWalk.i64_in _ (by have := HB.out; omega)
      have HS := Lib.hid (Still.refl wr)
      obtain ⟨ua, uc, rfl⟩ := hvf
      clear hl hl64 hlb htl hst c2
      go_wp2_with fail
      go_region_held3 (fun w' => w'.cell? ⟨t, 0, none⟩ = some (.pointer (some ⟨d, 0, none⟩)) ∧ w'.cell? ⟨t, 1, none⟩ = some (.int .i64 at_)) (first | exact ⟨c0, c1⟩ | exact SS.out _ (HR.out.still.trans (by assumption)))
        (first | (go_at_call 83; (with_reducible refine (HRD.out _ HS.out.drew).mono ?_); rintro e w3 ⟨v3, rfl, hv3, hs3, hg3⟩; have hs3' : Still wr w3 := HS.out.drew.trans hs3))
      obtain ⟨z, l', rfl⟩ : ∃ z l', l = z :: l' := by
        cases l with
        | nil => have := HT.out.2.1; cases this
        | cons z l' => exact ⟨z, l', rfl⟩
      obtain ⟨g3, o3, k3, rfl, hva⟩ := hv3.form (by omega)
      have hzb := HT.out.2.2 z (by simp)
      have cz : w3.cell? ⟨g3, o3, none⟩ = some (.int .u8 z) := hva.cell 0 (by omega)
      obtain ⟨zn, hzn⟩ : ∃ zn : Nat, z = (zn : Int) := ⟨z.toNat, by omega⟩
      subst hzn
      have hw3 := HR.out.still.trans hs3'
      have HV3 := Lib.hid (And.intro hv3 (And.intro hs3' hg3))
      have hrd : readB ((tls T at_ n).drop i) = if 63 < (zn : Int) then [] else l'.take zn ++ (if (zn : Int) < 63 then [] else readB ((tls T at_ n).drop (i + 1))) := by
        rw [HT.out.1, readB_cons]
        simp
      have HRB := Lib.hid hrd
      clear hva hs3 hg3 hv3 hs3' hrd
      by_cases h63 : (zn : Int) ≤ 63
      rotate_left
      · have q1 : decide (63 < (zn : Int)) = true := decide_eq_true (by omega)
        have q1' : decide (63 < zn) = true := decide_eq_true (by omega)
        have F := Lib.hid (show RdPost w (readB (tls T at_ n)) (.returned (.tuple #[.slice ua acc.length uc, .int .i64 0])) w3 from by
          have he := HE.out
          rw [HRB.out, if_pos (by omega), List.append_nil] at he
          rw [← he]
          exact ⟨_, rfl, HR.out.v.only HV3.out.2.1 fun _ _ e => e, hw3, fun g hg => by have := HR.out.own g hg; have := HV3.out.2.1.size; omega, HR.out.byt⟩)
        clear hw3
        go_wp2_with fail
        go_ret2
        exact F.out
      · have q1 : decide (63 < (zn : Int)) = false := decide_eq_false (by omega)
        have q1' : decide (63 < zn) = false := decide_eq_false (by omega)
        have hl'64 : l'.length = 63 := by have := HT.out.2.1; simp at this; omega
        obtain ⟨pv, r1, -, -, hpv⟩ := Go.Wh.Vec.part (P := Tryz.prog) (size := 1) 23 Tryz.underlying23 (fun w => rfl) HV3.out.1 (show 1 ≤ 1 + zn by omega) (show 1 + zn ≤ 64 by omega)
        have hpc : ((bc ((zn : Int) :: l')).drop (1 * 1)).take ((1 + zn - 1) * 1) = bc (l'.take zn) := by
          rw [show (1 + zn - 1) * 1 = zn by omega, bc_drop, bc_take]
          rfl
        have hpl : (l'.take zn).length = zn := by rw [List.length_take]; omega
        rw [hpc, show 1 + zn - 1 = zn by omega] at hpv
        have HPV := Lib.hid (hpv w3 HV3.out.1).reads
        have r1' : ∀ w : World, (Instr.slice 23 (.slice (some ⟨g3, o3, none⟩) 64 k3) (some (.int .i64 1)) (some (.int .i64 (1 + (zn : Int)))) none).run Tryz.prog w = .ok pv w := fun w => by
          have := r1 w
          rwa [Int.natCast_add] at this
        have u7 : IntKind.i64.wrap (1 + (zn : Int)) = 1 + (zn : Int) := IntWalk.i64_in _ (by omega)
        have HUV := Lib.hid (HR.out.v.only HV3.out.2.1 fun _ _ e => e)
        obtain ⟨pa, pk, rfl⟩ := (hpv w3 HV3.out.1).form'
        have HPB := Lib.hid (show Byt (l'.take zn) from Byt.take (fun y hy => HT.out.2.2 y (by simp [hy])) zn)
        have HPL := Lib.hid hpl
        clear hpc hpl hl'64 r1 hpv hw3
        by_cases hlt : (zn : Int) < 63
        · have q2 : decide ((zn : Int) < 63) = true := decide_eq_true hlt
          have q2' : decide (zn < 63) = true := decide_eq_true (by omega)
          have heq : (acc ++ l'.take zn) = readB (tls T at_ n) := by
            have he := HE.out
            rw [HRB.out, if_neg (by omega), if_pos hlt, List.append_nil] at he
            exact he
          have HEQ := Lib.hid heq
          clear heq hlt
          go_upto_region 9 with fail
          go_wp2_with (at_builtin; refine wpList_append_vec rfl _ _ 23 rfl 5 i0 _ 1 1 Tryz.underlying23 HI.out.1 HI.out.2.1 HI.out.2.2.1 HI.out.2.2.2 rfl (by decide) _ acc.length _ rfl HUV.out _ zn (bc (l'.take zn)) rfl HPV.out (bc_one _) (by have := HR.out.len; have := HB.out; simp only [maxLen]; omega) (by have := HR.out.len; have := HB.out; omega) ?_; intro v' w' hv' ho' hb'; have HNX := Lib.hid (HR.out.next (j := i + 1) HV3.out.2.1 hv' HPL.out ho' hb' HPB.out (by have := HPL.out; omega) rfl); have HB2 := Lib.hid (show RdPost w (readB (tls T at_ n)) (.returned (.tuple #[v', .int .i64 0])) w' from by
            rw [← HEQ.out]
            exact ⟨_, rfl, HNX.out.v, HNX.out.still, HNX.out.own, HNX.out.byt⟩); clear hv' ho' hb')
          go_wp2_with fail
          go_ret2
          exact HB2.out
        · have q2 : decide ((zn : Int) < 63) = false := decide_eq_false hlt
          have q2' : decide (zn < 63) = false := decide_eq_false (by omega)
          have heq : (acc ++ l'.take zn) ++ readB ((tls T at_ n).drop (i + 1)) = readB (tls T at_ n) := by
            have he := HE.out
            rw [HRB.out, if_neg (by omega), if_neg hlt, ← List.append_assoc] at he
            exact he
          have HEQ := Lib.hid heq
          clear heq hlt
          go_upto_region 9 with fail
          go_wp2_with (at_builtin; refine wpList_append_vec rfl _ _ 23 rfl 5 i0 _ 1 1 Tryz.underlying23 HI.out.1 HI.out.2.1 HI.out.2.2.1 HI.out.2.2.2 rfl (by decide) _ acc.length _ rfl HUV.out _ zn (bc (l'.take zn)) rfl HPV.out (bc_one _) (by have := HR.out.len; have := HB.out; simp only [maxLen]; omega) (by have := HR.out.len; have := HB.out; omega) ?_; intro v' w' hv' ho' hb'; have HNX := Lib.hid (HR.out.next (j := i + 1) HV3.out.2.1 hv' HPL.out ho' hb' HPB.out (by have := HPL.out; omega) rfl); clear hv' ho' hb')
          go_roundw
          case rel => exact ⟨i + 1, _, by go_num, by omega, HNX.out, HEQ.out⟩
          case measure => simp [intOf]; omega
    · have hge : i = n := by omega
      subst hge
      have b1 : decide ((i : Int) < (i : Int)) = false := by simp
      obtain ⟨ua, uc, rfl⟩ := hvf
      have F := Lib.hid (show RdPost w (readB (tls T at_ i)) (.returned (.tuple #[.slice ua acc.length uc, .int .i64 0])) wr from by
        have he := HE.out
        rw [List.drop_eq_nil_of_le (by unfold tls; rw [List.length_take]; omega)] at he
        rw [show readB ([] : List (List Int)) = [] from rfl, List.append_nil] at he
        rw [← he]
        exact ⟨_, rfl, HR.out.v, HR.out.still, HR.out.own, HR.out.byt⟩)
      go_wp2_with fail
      go_ret2
      exact F.out
end Go.Proofs.YtojkggppcmdepaaGreat
