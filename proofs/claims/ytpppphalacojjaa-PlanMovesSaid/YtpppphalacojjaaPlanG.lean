/- Package plan: Right, of at most forty-eight spots in a half that is. Conditions: keys differ. -/
import Derived.Test.YtpppphalacojjaaPlanF
namespace Go.Proofs.Ytpppphalacojjaa
open Go.RowKit Go.Wh

def okAt (h : Int) (k : Nat) (s : Spot) : Prop := s.p = h * 16 + (k : Int) / 3 ∧ s.c = (k : Int) % 3
def AllAt (h : Int) (l : List Spot) : Prop := ∀ i s, l[i]? = some s → okAt h i s
def RightPost (w : World) (l : List Spot) (h : Int) (e : Ending) (w' : World) : Prop :=
  ∃ l', l'.Perm l ∧ Sorted l' ∧ Below w.heap.size w w' ∧ ((e = .returned (.bool true) ∧ AllAt h l') ∨ (e = .returned (.bool false) ∧ ¬ AllAt h l'))

theorem infoSpot' : (Try.prog.info? 31).map (fun i => (i.zero, i.size, i.bytes)) = some (some (.agg #[.string ⟨#[]⟩, .int .i64 0, .int .i64 0]), 3, 32) := by kernel_rfl

set_option maxRecDepth 100000 in
set_option maxHeartbeats 2000000 in
theorem right_of (l : List Spot) (v : Value) (h : Int) (w : World) (hh : h = 0 ∨ h = 1)
    (hs : Calls Try.prog 12 #[v] w (SortedPost w l.length l)) (hd : Distinct l) (hn : l.length ≤ 48) :
    Calls Try.prog 10 #[v, .int .i64 h] w (RightPost w l h) := by
  have C := Lib.hid hs
  have HD := Lib.hid hd
  obtain ⟨h0, h1⟩ : 0 ≤ h ∧ h ≤ 1 := by omega
  have HH := Lib.hid hh
  clear hs hd hh
  go_enter Try.func10, Try.ntmps10
  go_wp2_with fail
  refine C.out.mono ?_
  clear C
  rintro e w1 ⟨v1, l', rfl, hp, hso, hv1, hb1, hg1⟩
  have HV := Lib.hid hv1
  have HB := Lib.hid hb1
  have HP := Lib.hid hp
  have HSO := Lib.hid hso
  have HDA := Lib.hid (distinct_adj (HD.out.perm hp.symm))
  have HN := Lib.hid (show l'.length = l.length from hp.length_eq)
  clear hp hso hv1 hb1 hg1 HD
  generalize hnn : l.length = n at *
  clear hnn
  obtain ⟨va, vcap, rfl⟩ := HV.out.form'
  go_wp2_with fail
  go_loopw [13] (fun s wr => ∃ k : Nat, s = .int .i64 k ∧ k ≤ n ∧ Below w1.heap.size w1 wr ∧ (∀ i s, i < k → l'[i]? = some s → okAt h i s)) (fun s _ => n - (intOf s).toNat)
  case atStart => exact ⟨0, rfl, by omega, Below.refl _ _, fun i s hi => by omega⟩
  case round =>
    obtain ⟨k, rfl, hk, hb, ha⟩ := hrel
    have HB1 := Lib.hid hb
    have HA := Lib.hid ha
    clear hb ha
    by_cases hkn : k < n
    · obtain ⟨g, o, cap, hve, hv⟩ := HV.out.form (by omega)
      injection hve with hva _ hvc
      subst hva hvc
      have hgl := hv.lt (by have := hv.le; omega)
      have hv' := hv.block (HB1.out.block g hgl)
      have hkl : k < l'.length := by rw [HN.out]; omega
      obtain ⟨c0, c1, c2⟩ := at_of hv' k hkl
      have HT := Lib.hid (show ∀ q, k = q + 1 → ∃ y, w1.cell? ⟨g, o + q * 3, none⟩ = some (.string y) ∧ (y.toList == l'[k].key.toList) = false from fun q hq => by
        subst hq
        obtain ⟨a0, _, _⟩ := at_of hv q (by omega)
        refine ⟨_, a0, ?_⟩
        have e : l' = l'.take q ++ l'[q] :: l'[q + 1] :: l'.drop (q + 2) := by
          rw [← List.drop_eq_getElem_cons hkl, ← List.drop_eq_getElem_cons (by omega : q < l'.length), List.take_append_drop]
        have := HDA.out _ _ _ _ e
        rw [Bool.eq_false_iff] at this ⊢
        intro hh
        apply this
        simpa using (by simpa using hh : l'[q].key.toList = l'[q + 1].key.toList).symm)
      have hsk : l'[k]? = some l'[k] := List.getElem?_eq_getElem hkl
      generalize l'[k] = sp at *
      have HSK := Lib.hid hsk
      clear hv hv' hsk hkl
      have c2' : wr.cell? ⟨g, o + k * 3 + 1 + 1, none⟩ = some (.int .i64 sp.c) := c2
      go_wp2_with fail
      refine (place_yes h k _ h0 h1 (by omega) (by omega)).mono ?_
      rintro e w2 ⟨rfl, hb2⟩
      have HB2 := Lib.hid hb2
      clear hb2
      go_wp2_with fail
      have HW := Lib.hid (show Below w1.heap.size w1 (w2.alloc (.cells #[.int .i64 (h * 16 + (k : Int) / 3), .int .i64 ((k : Int) % 3)] 26)) from
        ((HB1.out.alloc HB1.out.size _).trans (Below.mono HB2.out (by have := HB1.out.size; simp; omega))).alloc (by have := HB1.out.size; have := HB2.out.size; simp at this; omega) _)
      have hce : cellsAt (w2.alloc (.cells #[.int .i64 (h * 16 + (k : Int) / 3), .int .i64 ((k : Int) % 3)] 26)) wr.heap.size [.string sp.key, .int .i64 sp.p, .int .i64 sp.c] :=
        ((cellsAt_new wr [.string sp.key, .int .i64 sp.p, .int .i64 sp.c] 31).below HB2.out (by simp)).alloc _
      have hcf : cellsAt (w2.alloc (.cells #[.int .i64 (h * 16 + (k : Int) / 3), .int .i64 ((k : Int) % 3)] 26)) w2.heap.size [.int .i64 (h * 16 + (k : Int) / 3), .int .i64 ((k : Int) % 3)] :=
        cellsAt_new w2 [.int .i64 (h * 16 + (k : Int) / 3), .int .i64 ((k : Int) % 3)] 26
      have e0 := hce.cell 0
      have e1 := hce.cell 1
      have e2 := hce.cell 2
      have f0 := hcf.cell 0
      have f1 := hcf.cell 1
      simp only [List.getElem?_cons_zero, List.getElem?_cons_succ] at e0 e1 e2 f0 f1
      generalize (w2.alloc (.cells #[.int .i64 (h * 16 + (k : Int) / 3), .int .i64 ((k : Int) % 3)] 26)) = w3 at *
      generalize w2.heap.size = b2 at *
      generalize wr.heap.size = b1 at *
      clear hce hcf HB2 HB1 c0 c1 c2 c2'
      by_cases hok : okAt h k sp
      · obtain ⟨ep, ec⟩ := hok
        have F := Lib.hid (show ∀ u, Below w1.heap.size w1 (w3.drewN u) ∧ (∀ i s, i < k + 1 → l'[i]? = some s → okAt h i s) from fun u => ⟨below_drewN HW.out u, fun i s hi hs => by
          by_cases e : i = k
          · subst e
            rw [HSK.out] at hs
            injection hs with hs
            subst hs
            exact ⟨ep, ec⟩
          · exact HA.out i s (by omega) hs⟩)
        have HBW := Lib.hid (fun p (hp : p.block < w1.heap.size) => HW.out.cell (p := p) hp)
        clear HA HSK
        rw [← ep] at f0
        rw [← ec] at f1
        clear ep ec
        have hz : decide ((h * 16 + (k : Int) / 3) < 0) = true ∨ True := .inr trivial
        clear hz
        cases k with
        | zero =>
          clear HT HW HBW
          go_quiet (fail)
          go_wp2_with fail
          go_roundw
          case rel => exact ⟨1, by go_num, by omega, F.out _⟩
          case measure => simp [intOf]; omega
        | succ q =>
          obtain ⟨y, hy, hye⟩ := HT.out q rfl
          have hy3 : w3.cell? ⟨g, o + q * 3, none⟩ = some (.string y) := (HBW.out _ hgl).trans hy
          clear HT HW HBW hy
          have a3 : (0 : Int) ≤ (q : Int) := by omega
          have a4 : (q : Int) < (n : Int) := by omega
          have a6 : IntKind.i64.wrap (q : Int) = (q : Int) := IntWalk.i64_in _ (by omega)
          go_quiet (fail)
          clear a3 a4 a6
          go_wp2_with fail
          go_roundw
          case rel => exact ⟨q + 2, by go_num, by omega, F.out _⟩
          case measure => simp [intOf]; omega
      · have F := Lib.hid (show ∀ u, RightPost w l h (.returned (.bool false)) (w3.drewN u) from fun u => ⟨l', HP.out, HSO.out, (HB.out.trans (Below.mono (below_drewN HW.out u) HB.out.size)), .inr ⟨rfl, fun hall => hok (hall k sp HSK.out)⟩⟩)
        clear HA HB HW HT
        by_cases hp : h * 16 + (k : Int) / 3 = sp.p
        · have hc : ¬ (k : Int) % 3 = sp.c := fun hc => hok ⟨hp.symm, hc.symm⟩
          have hc' : ((k : Int) % 3 == sp.c) = false := by simpa using hc
          clear hok
          rw [hp] at f0
          clear hp
          go_quiet (fail)
          go_wp2_with fail
          go_ret
          exact F.out _
        · have hp' : (h * 16 + (k : Int) / 3 == sp.p) = false := by simpa using hp
          clear hok
          go_quiet (fail)
          go_wp2_with fail
          go_ret
          exact F.out _
    · have F := Lib.hid (show RightPost w l h (.returned (.bool true)) wr from ⟨l', HP.out, HSO.out, HB.out.trans (Below.mono HB1.out HB.out.size), .inl ⟨rfl, fun i s hi => HA.out i s (by
        have := (List.getElem?_eq_some_iff.1 hi).1
        rw [HN.out] at this
        omega) hi⟩⟩)
      clear HA HB1
      rcases HH.out with rfl | rfl
      all_goals
        go_wp2_with fail
        go_ret
        exact F.out
end Go.Proofs.Ytpppphalacojjaa
