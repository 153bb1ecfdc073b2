/- IndexMoves: the walk. Conditions: three numbers of their kinds; the library's variable holds a number. IndexMoves: for every input the law returns true and its arguments read as before; the card. No conditions beyond the row's. -/
import Derived.Test.YtedfijmaeoednaaGreatDoorBx27
import Derived.Deep.DeepCutAuto
import Derived.Deep.QuietTactic
import Derived.BigQuiet
import Derived.Test.YtedfijmaeoednaaGreatDoorCards
namespace Go.Proofs.YtedfijmaeoednaaGreatDoor
open Go.RowKit Go.Wh Go.Proofs.YtedfijmaeoednaaGreatDoor.Tw

/-- Behind the puts. -/
def mvA (i : Nat) : Nat → Option Rw := fun j => if j < i then some ⟨kk j, ⟨#[115]⟩, (j, 0), (j, 0)⟩ else none
/-- Behind the moves and the mends. -/
def mvF (mv : Nat → Bool) (i j : Nat) : Int := if j < i ∧ mv j = true then 16 + (j : Int) else j
def mvN (mv me : Nat → Bool) (i j : Nat) : Int := if j < i ∧ me j = true then (if mv j then 16 + (j : Int) else j) else j
def mvB (mv me : Nat → Bool) (k i : Nat) : Nat → Option Rw := fun j => if j < k then some ⟨kk j, ⟨#[115]⟩, (mvF mv i j, 0), (mvN mv me i j, 0)⟩ else none
theorem mvA_named (i : Nat) : Named (mvA i) := ⟨fun j _ r hr => by
  unfold mvA at hr
  split at hr
  · cases hr; rfl
  · cases hr⟩
theorem mvB_named (mv me : Nat → Bool) (k i : Nat) : Named (mvB mv me k i) := ⟨fun j _ r hr => by
  unfold mvB at hr
  split at hr
  · cases hr; rfl
  · cases hr⟩
theorem mvA_zero : rowsH (mvA 0) = [] := by
  unfold rowsH
  rw [List.filterMap_eq_nil_iff]
  intro j _
  rfl
theorem mvA_put {i : Nat} (hi : i < 26) : putR (rowsH (mvA i)) (kk i) ⟨#[115]⟩ ⟨#[]⟩ (i, 0) = rowsH (mvA (i + 1)) ∧ putE (rowsH (mvA i)) (kk i) ⟨#[115]⟩ ⟨#[]⟩ = 0 := by
  have h1 : mayB (kk i) ⟨#[115]⟩ ⟨#[]⟩ = true := by
    have := kk_size i
    have e2 : (⟨#[115]⟩ : Key).size = 1 := rfl
    have e3 : (⟨#[]⟩ : Key).size = 0 := rfl
    unfold mayB
    rw [this, e2, e3]
    rfl
  have h2 : getR (rowsH (mvA i)) (kk i) = none := by
    rw [get_rowsH (mvA_named i) hi]
    unfold mvA
    rw [if_neg (by omega)]
  unfold putR putE
  rw [h1, h2]
  refine ⟨?_, rfl⟩
  show insR (rowsH (mvA i)) ⟨kk i, ⟨#[115]⟩, (i, 0), (i, 0)⟩ = _
  rw [ins_rowsH (mvA_named i) hi rfl]
  refine rowsH_congr fun j _ => ?_
  by_cases e : j = i
  · subst e
    rw [updH_same]
    unfold mvA
    rw [if_pos (by omega)]
  · rw [updH_other _ _ e]
    unfold mvA
    by_cases hj : j < i
    · rw [if_pos hj, if_pos (by omega)]
    · rw [if_neg hj, if_neg (by omega)]
theorem mvB_zero (mv me : Nat → Bool) (k : Nat) : rowsH (mvB mv me k 0) = rowsH (mvA k) := by
  refine rowsH_congr fun j _ => ?_
  unfold mvB mvA mvF mvN
  simp

theorem mvB_get {mv me : Nat → Bool} {k i : Nat} (hi : i < 26) (hk : i < k) : getR (rowsH (mvB mv me k i)) (kk i) = some ⟨kk i, ⟨#[115]⟩, (i, 0), (i, 0)⟩ := by
  rw [get_rowsH (mvB_named _ _ _ _) hi]
  unfold mvB mvF mvN
  rw [if_pos hk, if_neg (by omega), if_neg (by omega)]
theorem mvB_next {mv me : Nat → Bool} {k i : Nat} (hi : i < 26) (hk : i < k) {r : Rw} (hr : r = ⟨kk i, ⟨#[115]⟩, (if mv i then 16 + (i : Int) else i, 0), (if me i then (if mv i then 16 + (i : Int) else i) else i, 0)⟩) : insR (rowsH (mvB mv me k i)) r = rowsH (mvB mv me k (i + 1)) := by
  subst hr
  rw [ins_rowsH (mvB_named _ _ _ _) hi rfl]
  refine rowsH_congr fun j _ => ?_
  by_cases e : j = i
  · subst e
    rw [updH_same]
    unfold mvB mvF mvN
    rw [if_pos hk]
    have h1 : j < j + 1 := by omega
    simp only [h1, true_and]
  · rw [updH_other _ _ e]
    unfold mvB mvF mvN
    have h1 : (j < i + 1) = (j < i) := by rw [eq_iff_iff]; omega
    simp only [h1]
theorem mvB_same {mv me : Nat → Bool} {k i : Nat} (hi : i < 26) (hk : i < k) (h1 : mv i = false) (h2 : me i = false) : rowsH (mvB mv me k i) = rowsH (mvB mv me k (i + 1)) := by
  refine rowsH_congr fun j _ => ?_
  by_cases e : j = i
  · subst e
    unfold mvB mvF mvN
    simp [h1, h2]
  · unfold mvB mvF mvN
    have h1 : (j < i + 1) = (j < i) := by rw [eq_iff_iff]; omega
    simp only [h1]

theorem mv_move {mv me : Nat → Bool} {k i : Nat} (hi : i < 26) (hk : i < k) : moveR (rowsH (mvB mv me k i)) (kk i) (16 + (i : Int), 0) = rowsH (updH (mvB mv me k i) i (some ⟨kk i, ⟨#[115]⟩, (16 + (i : Int), 0), (i, 0)⟩)) ∧ errOf (getR (rowsH (mvB mv me k i)) (kk i)) = .int .i64 0 := by
  unfold moveR
  rw [mvB_get hi hk]
  exact ⟨ins_rowsH (mvB_named _ _ _ _) hi rfl, rfl⟩
theorem mv_next1 {mv me : Nat → Bool} {k i : Nat} (hi : i < 26) (hk : i < k) (h1 : mv i = true) (h2 : me i = false) : rowsH (updH (mvB mv me k i) i (some ⟨kk i, ⟨#[115]⟩, (16 + (i : Int), 0), (i, 0)⟩)) = rowsH (mvB mv me k (i + 1)) := by
  rw [← ins_rowsH (mvB_named _ _ _ _) hi rfl]
  exact mvB_next hi hk (by rw [h1, h2]; rfl)
theorem mv_mend1 {mv me : Nat → Bool} {k i : Nat} (hi : i < 26) (hk : i < k) (h1 : mv i = true) (h2 : me i = true) : mendR (rowsH (updH (mvB mv me k i) i (some ⟨kk i, ⟨#[115]⟩, (16 + (i : Int), 0), (i, 0)⟩))) (kk i) = rowsH (mvB mv me k (i + 1)) ∧ errOf (getR (rowsH (updH (mvB mv me k i) i (some ⟨kk i, ⟨#[115]⟩, (16 + (i : Int), 0), (i, 0)⟩))) (kk i)) = .int .i64 0 := by
  have hn := (mvB_named mv me k i).upd (i := i) (o := some ⟨kk i, ⟨#[115]⟩, (16 + (i : Int), 0), (i, 0)⟩) (fun r hr => by cases hr; rfl)
  unfold mendR
  rw [get_rowsH hn hi, updH_same]
  refine ⟨?_, rfl⟩
  show insR (rowsH _) _ = _
  rw [ins_rowsH hn hi rfl, ← mvB_next hi hk rfl, ins_rowsH (mvB_named _ _ _ _) hi rfl, h1, h2]
  refine rowsH_congr fun j _ => ?_
  by_cases e : j = i
  · subst e
    rw [updH_same, updH_same]
    rfl
  · rw [updH_other _ _ e, updH_other _ _ e, updH_other _ _ e]
theorem mv_mend0 {mv me : Nat → Bool} {k i : Nat} (hi : i < 26) (hk : i < k) (h1 : mv i = false) (h2 : me i = true) : mendR (rowsH (mvB mv me k i)) (kk i) = rowsH (mvB mv me k (i + 1)) ∧ errOf (getR (rowsH (mvB mv me k i)) (kk i)) = .int .i64 0 := by
  unfold mendR
  rw [mvB_get hi hk]
  exact ⟨mvB_next hi hk (by rw [h1, h2]; rfl), rfl⟩

theorem mv_cnt {mv me : Nat → Bool} {k : Nat} : ∀ j, j ≤ k → cntH (mvB mv me k k) j = j
  | 0, _ => rfl
  | j + 1, h => by
    have e : (mvB mv me k k j).isSome = true := by unfold mvB; rw [if_pos (show j < k by omega)]; rfl
    rw [cntH_succ, mv_cnt j (by omega), e]
    rfl
theorem mv_over {mv me : Nat → Bool} {k : Nat} : ∀ j, k ≤ j → cntH (mvB mv me k k) j = k
  | 0, h => by
    have : k = 0 := by omega
    subst this
    rfl
  | j + 1, h => by
    by_cases e : k = j + 1
    · subst e
      exact mv_cnt _ (Nat.le_refl _)
    · have e : (mvB mv me k k j).isSome = false := by unfold mvB; rw [if_neg (show ¬ j < k by omega)]; rfl
      rw [cntH_succ, mv_over j (by omega), e]
      rfl
theorem mv_length {mv me : Nat → Bool} {k : Nat} (hk : k ≤ 26) : (rowsH (mvB mv me k k)).length = k := by rw [← cntH_all, mv_over 26 hk]
theorem mv_at {mv me : Nat → Bool} {k j : Nat} (hk : k ≤ 26) (hj : j < k) : (rowsH (mvB mv me k k))[j]? = some ⟨kk j, ⟨#[115]⟩, (if mv j then 16 + (j : Int) else j, 0), (if me j then (if mv j then 16 + (j : Int) else j) else j, 0)⟩ := by
  have h := rowsH_at (h := mvB mv me k k) (i := j) (by omega) (r := ⟨kk j, ⟨#[115]⟩, (if mv j then 16 + (j : Int) else j, 0), (if me j then (if mv j then 16 + (j : Int) else j) else j, 0)⟩) (by
    unfold mvB mvF mvN
    rw [if_pos hj]
    simp only [hj, true_and])
  rwa [mv_cnt j (by omega)] at h
theorem mv_seek {mv me : Nat → Bool} {k i : Nat} : seekR (rowsH (mvB mv me k i)) ⟨#[115]⟩ = rowsH (mvB mv me k i) := by
  unfold seekR
  rw [List.filter_eq_self]
  intro r hr
  obtain ⟨j, _, e⟩ := mem_rowsH.1 hr
  unfold mvB at e
  split at e
  · cases e; rfl
  · cases e

/-- A bit of a number. -/
def mbit (x : Int) (j : Nat) : Bool := (bits BinOp.and IntKind.u16 (x / 2 ^ j) 1 == 1)

/-- What is told of so many rows: the four lists. -/
structure Four (w : World) (mv me : Nat → Bool) (k : Nat) (g1 o1 g2 o2 g3 o3 g4 o4 : Nat) : Prop where
  a : ∀ j, j < k → w.cell? ⟨g1, o1 + j, none⟩ = some (.string (kk j))
  b : ∀ j, j < k → w.cell? ⟨g2, o2 + j * 2, none⟩ = some (.int .i64 (if mv j then 16 + (j : Int) else j))
  c : ∀ j, j < k → w.cell? ⟨g3, o3 + j, none⟩ = some (.string (kk j))
  d : ∀ j, j < k → w.cell? ⟨g4, o4 + j * 2, none⟩ = some (.int .i64 (if me j then (if mv j then 16 + (j : Int) else j) else j))
theorem Four.still {w w' : World} {mv me : Nat → Bool} {k g1 o1 g2 o2 g3 o3 g4 o4 : Nat} (h : Four w mv me k g1 o1 g2 o2 g3 o3 g4 o4) (hs : Still w w') : Four w' mv me k g1 o1 g2 o2 g3 o3 g4 o4 :=
  ⟨fun j hj => Still.cell hs (h.a j hj), fun j hj => Still.cell hs (h.b j hj), fun j hj => Still.cell hs (h.c j hj), fun j hj => Still.cell hs (h.d j hj)⟩

theorem lists_at {w w' : World} {Q : List Rw} {f : Rw → Rid} {kv vv : Value} {k : Nat} (h : Lists w w' (rkeys Q) (Q.map f) kv vv) (hk : Q.length = k) (h1 : 1 ≤ k) :
    ∃ g1 o1 c1 g2 o2 c2, kv = .slice (some ⟨g1, o1, none⟩) k c1 ∧ vv = .slice (some ⟨g2, o2, none⟩) k c2 ∧ ∀ j r, Q[j]? = some r → w'.cell? ⟨g1, o1 + j, none⟩ = some (.string r.key) ∧ w'.cell? ⟨g2, o2 + j * 2, none⟩ = some (.int .i64 (f r).1) ∧ w'.cell? ⟨g2, o2 + j * 2 + 1, none⟩ = some (.int .i64 (f r).2) := by
  have hkv := h.k
  have hvv := h.v
  have e1 : (rkeys Q).length = k := (List.length_map _).trans hk
  have e2 : (Q.map f).length = k := (List.length_map _).trans hk
  rw [e1] at hkv
  rw [e2] at hvv
  obtain ⟨g1, o1, c1, rfl, hk1⟩ := hkv.form (by omega)
  obtain ⟨g2, o2, c2, rfl, hv1⟩ := hvv.form (by omega)
  refine ⟨g1, o1, c1, g2, o2, c2, rfl, rfl, fun j r hr => ?_⟩
  have hj : j < k := by rw [← hk]; exact (List.getElem?_eq_some_iff.1 hr).1
  have q1 : (rkeys Q)[j]? = some r.key := by unfold rkeys; rw [List.getElem?_map, hr]; rfl
  have q2 : (Q.map f)[j]? = some (f r) := by rw [List.getElem?_map, hr]; rfl
  have q3 := rcells_get (Q.map f) j (f r) q2
  refine ⟨?_, ?_, ?_⟩
  · rw [hk1.cell j (by omega)]
    exact kcells_get q1
  · rw [hv1.cell (j * 2) (by omega)]
    exact q3.1
  · rw [Nat.add_assoc, hv1.cell (j * 2 + 1) (by omega)]
    exact q3.2

set_option maxHeartbeats 2000000 in
set_option maxRecDepth 100000 in
theorem moves_walk (n mvn men : Int) (W : World) (hm : HasM W) (h0 : 0 ≤ n ∧ n ≤ 255) (h1 : 0 ≤ mvn ∧ mvn ≤ 65535) (h2 : 0 ≤ men ∧ men ≤ 65535) :
    Calls Tryz.prog 5 #[.int .u8 n, .int .u16 mvn, .int .u16 men] W (BTrue W) := by
  have HBG := Lib.hid (begun_any W hm)
  have HM := Lib.hid hm
  obtain ⟨h00, h01⟩ := h0
  obtain ⟨h10, h11⟩ := h1
  obtain ⟨h20, h21⟩ := h2
  clear hm
  go_enter Tryz.func5, Tryz.ntmps5
  go_wp2_with fail
  refine HBG.out.mono ?_
  rintro e w1 ⟨rfl, hs1⟩
  have HN := Lib.hid (ox_new (w0 := W) (A := fun _ => False) hs1 (HasM.only HM.out hs1 fun e => e) (fun _ e => e.elim))
  have HS1 := Lib.hid hs1
  clear hs1 HBG
  go_wp2_with fail
  refine HN.out.mono ?_
  rintro e w2 ⟨x, rfl, ho2, hs2⟩
  obtain ⟨k, hk⟩ : ∃ k : Nat, 1 + n % 10 = (k : Int) := ⟨(1 + n % 10).toNat, by omega⟩
  have hk1 : 1 ≤ k := by omega
  have hk2 : k ≤ 10 := by omega
  have HS := Lib.hid (show OwnX W (fun _ => False) w2 x (rowsH (mvA 0)) ∧ Still W w2 from ⟨mvA_zero ▸ ho2, HS1.out.trans hs2⟩)
  rw [hk]
  clear ho2 hs2 HN HS1 hk h00 h01
  unfold ptr
  go_wp2_with fail
  go_loopw [9] (fun s wr => ∃ i : Nat, s = .int .i64 i ∧ i ≤ k ∧ OwnX W (fun _ => False) wr x (rowsH (mvA i)) ∧ Still W wr) (fun s _ => k - (intOf s).toNat)
  case atStart => exact ⟨0, rfl, by omega, HS.out⟩
  case round =>
    clear HS
    obtain ⟨i, rfl, hik, ho, hs⟩ := hrel
    by_cases hlt : i < k
    · have HP := Lib.hid (fun w' (hst : Still wr w') => ox_put (ho.still hst) (by have := rowsH_length (mvA i); omega) (hs.trans hst) (kk i) ⟨#[115]⟩ ⟨#[]⟩ (i : Int) 0 (by rw [kk_size]; omega) (by decide) (by decide) (mvA_put (by omega)).1 (mvA_put (by omega)).2)
      have HS := Lib.hid hs
      have d1 : decide ((i : Int) < (k : Int)) = true := by simp; omega
      have d2 : decide (i < k) = true := by simp; omega
      have cv := conv1
      unfold kk at HP
      clear ho hs
      go_wp2_with fail
      refine (HP.out _ ((Still.refl _).alloc _)).mono ?_
      rintro e w3 ⟨rfl, ho3, hm3⟩
      have H3 := Lib.hid (And.intro ho3 (hm3.still (HS.out.trans ((Still.refl _).alloc _))))
      clear ho3 hm3 cv HP
      go_wp2_with fail
      go_roundw
      case rel => exact ⟨i + 1, by go_num, by omega, H3.out⟩
      case measure => simp [intOf]; omega
    · have hik2 : i = k := by omega
      subst hik2
      have HO := Lib.hid (And.intro ho hs)
      have d1 : decide ((i : Int) < (i : Int)) = false := by simp
      clear ho hs
      go_wp2_with fail
      obtain ⟨mv, hmv⟩ : ∃ mv : Nat → Bool, mv = mbit mvn := ⟨_, rfl⟩
      obtain ⟨me, hme⟩ : ∃ me : Nat → Bool, me = mbit men := ⟨_, rfl⟩
      have HMB := Lib.hid (And.intro hmv hme)
      clear hmv hme
      go_loopw [10] (fun s wr => ∃ j : Nat, s = .int .i64 j ∧ j ≤ i ∧ OwnX W (fun _ => False) wr x (rowsH (mvB mv me i j)) ∧ Still W wr) (fun s _ => i - (intOf s).toNat)
      case atStart => exact ⟨0, rfl, by omega, mvB_zero mv me i ▸ HO.out.1, HO.out.2⟩
      case round =>
        clear HO
        obtain ⟨j, rfl, hjk, ho, hs⟩ := hrel
        by_cases hlt : j < i
        · have hl1 := rowsH_length (mvB mv me i j)
          have HV := Lib.hid (fun w' (hst : Still wr w') => ox_move (ho.still hst) (by omega) (hs.trans hst) (kk j) (16 + (j : Int)) 0 (mv_move (mv := mv) (me := me) (by omega) hlt).1 (mv_move (mv := mv) (me := me) (by omega) hlt).2)
          have HO := Lib.hid (And.intro ho hs)
          have d1 : decide ((j : Int) < (i : Int)) = true := by simp; omega
          have d2 : decide (j < i) = true := by simp; omega
          have cv := conv1
          unfold kk at HV
          clear ho hs
          cases ha : mv j with
          | true =>
            have t1 : (bits BinOp.and IntKind.u16 (mvn / 2 ^ j) 1 == 1) = true := by have := congrFun HMB.out.1 j; rw [ha] at this; exact this.symm
            cases hb : me j with
            | true =>
              have t2 : (bits BinOp.and IntKind.u16 (men / 2 ^ j) 1 == 1) = true := by have := congrFun HMB.out.2 j; rw [hb] at this; exact this.symm
              have HAB := Lib.hid (And.intro ha hb)
              clear ha hb
              go_wp2_with fail
              refine (HV.out _ ((Still.refl _).alloc _)).mono ?_
              rintro e w3 ⟨rfl, ho3, hm3⟩
              have hs3 := hm3.still (HO.out.2.trans ((Still.refl _).alloc _))
              have HE := Lib.hid (ox_mend ho3 (Nat.le_trans (rowsH_length _) (by omega)) hs3 (kk j) (mv_mend1 (by omega) hlt HAB.out.1 HAB.out.2).1 (mv_mend1 (by omega) hlt HAB.out.1 HAB.out.2).2)
              have H3 := Lib.hid hs3
              unfold kk at HE
              clear ho3 hm3 hs3 cv HV
              go_wp2_with fail
              refine HE.out.mono ?_
              rintro e w4 ⟨rfl, ho4, hm4⟩
              have H4 := Lib.hid (And.intro ho4 (hm4.still H3.out))
              clear ho4 hm4
              go_wp2_with fail
              go_roundw
              case rel => exact ⟨j + 1, by go_num, by omega, H4.out⟩
              case measure => simp [intOf]; omega
            | false =>
              have t2 : (bits BinOp.and IntKind.u16 (men / 2 ^ j) 1 == 1) = false := by have := congrFun HMB.out.2 j; rw [hb] at this; exact this.symm
              have HAB := Lib.hid (And.intro ha hb)
              clear ha hb
              go_wp2_with fail
              refine (HV.out _ ((Still.refl _).alloc _)).mono ?_
              rintro e w3 ⟨rfl, ho3, hm3⟩
              have H3 := Lib.hid (And.intro (mv_next1 (by omega) hlt HAB.out.1 HAB.out.2 ▸ ho3) (hm3.still (HO.out.2.trans ((Still.refl _).alloc _))))
              clear ho3 hm3 cv HV
              go_wp2_with fail
              go_roundw
              case rel => exact ⟨j + 1, by go_num, by omega, H3.out⟩
              case measure => simp [intOf]; omega
          | false =>
            have t1 : (bits BinOp.and IntKind.u16 (mvn / 2 ^ j) 1 == 1) = false := by have := congrFun HMB.out.1 j; rw [ha] at this; exact this.symm
            cases hb : me j with
            | true =>
              have t2 : (bits BinOp.and IntKind.u16 (men / 2 ^ j) 1 == 1) = true := by have := congrFun HMB.out.2 j; rw [hb] at this; exact this.symm
              have HE := Lib.hid (fun w' (hst : Still wr w') => ox_mend (HO.out.1.still hst) (by omega) (HO.out.2.trans hst) (kk j) (mv_mend0 (by omega) hlt ha hb).1 (mv_mend0 (by omega) hlt ha hb).2)
              unfold kk at HE
              clear ha hb HV
              go_wp2_with fail
              refine (HE.out _ ((Still.refl _).alloc _)).mono ?_
              rintro e w3 ⟨rfl, ho3, hm3⟩
              have H3 := Lib.hid (And.intro ho3 (hm3.still (HO.out.2.trans ((Still.refl _).alloc _))))
              clear ho3 hm3 cv HE
              go_wp2_with fail
              go_roundw
              case rel => exact ⟨j + 1, by go_num, by omega, H3.out⟩
              case measure => simp [intOf]; omega
            | false =>
              have t2 : (bits BinOp.and IntKind.u16 (men / 2 ^ j) 1 == 1) = false := by have := congrFun HMB.out.2 j; rw [hb] at this; exact this.symm
              have H3 := Lib.hid (fun w' (hst : Still wr w') => And.intro (mvB_same (k := i) (by omega) hlt ha hb ▸ HO.out.1.still hst) (HO.out.2.trans hst))
              clear ha hb HV
              go_wp2_with fail
              go_roundw
              case rel => exact ⟨j + 1, by go_num, by omega, H3.out _ ((Still.refl _).alloc _)⟩
              case measure => simp [intOf]; omega
        · have hjk2 : j = i := by omega
          subst hjk2
          have d1 : decide ((j : Int) < (j : Int)) = false := by simp
          have HF := Lib.hid (ox_from ho (by have := rowsH_length (mvB mv me j j); omega) ⟨#[]⟩ (from_empty _))
          have HO := Lib.hid (And.intro ho hs)
          clear ho hs
          go_wp2_with fail
          refine HF.out.mono ?_
          rintro e w3 ⟨kv, vv, rfl, hl3, hs3⟩
          obtain ⟨g1, o1, c1, g2, o2, c2, rfl, rfl, q3⟩ := lists_at hl3 (mv_length (by omega)) hk1
          have HS3 := Lib.hid (ox_seek (HO.out.1.still hs3) (by have := rowsH_length (mvB mv me j j); omega) ⟨#[115]⟩ (by decide) mv_seek)
          have H3 := Lib.hid (And.intro q3 hs3)
          clear hl3 hs3 q3 HF
          go_wp2_with fail
          refine HS3.out.mono ?_
          rintro e w4 ⟨kv, vv, rfl, hl4, hs4⟩
          obtain ⟨g3, o3, c3, g4, o4, c4, rfl, rfl, q4⟩ := lists_at hl4 (mv_length (by omega)) hk1
          have h4 : Four w4 mv me j g1 o1 g2 o2 g3 o3 g4 o4 := ⟨fun i hi => Still.cell hs4 (H3.out.1 i _ (mv_at (by omega) hi)).1, fun i hi => Still.cell hs4 (H3.out.1 i _ (mv_at (by omega) hi)).2.1, fun i hi => (q4 i _ (mv_at (by omega) hi)).1, fun i hi => (q4 i _ (mv_at (by omega) hi)).2.1⟩
          have H4 := Lib.hid (And.intro h4 ((HO.out.2.trans H3.out.2).trans hs4))
          clear hl4 hs4 q4 h4 HS3 H3 HO
          go_wp2_with fail
          go_loopw [16] (fun s wr => ∃ i : Nat, s = .int .i64 i ∧ i ≤ j ∧ Still w4 wr) (fun s _ => j - (intOf s).toNat)
          case atStart => exact ⟨0, rfl, by omega, Still.refl _⟩
          case round =>
            obtain ⟨i, rfl, hij, hs⟩ := hrel
            by_cases hlt2 : i < j
            · have hf := H4.out.1.still hs
              have a1 := hf.a i hlt2
              have a2 := hf.b i hlt2
              have a3 := hf.c i hlt2
              have a4 := hf.d i hlt2
              have HS := Lib.hid hs
              have d1 : decide ((i : Int) < (j : Int)) = true := by simp; omega
              have d2 : decide (i < j) = true := by simp; omega
              have d3 : (0 : Int) ≤ (i : Int) := by omega
              have d4 : (i : Int) < (j : Int) := by omega
              generalize kk i = key at a1 a3
              clear hf hs
              cases ha : mv i with
              | true =>
                cases hb : me i with
                | true =>
                  have t1 : (bits BinOp.and IntKind.u16 (mvn / 2 ^ i) 1 == 1) = true := by have := congrFun HMB.out.1 i; rw [ha] at this; exact this.symm
                  have t2 : (bits BinOp.and IntKind.u16 (men / 2 ^ i) 1 == 1) = true := by have := congrFun HMB.out.2 i; rw [hb] at this; exact this.symm
                  rw [ha] at a2 a4
                  rw [hb] at a4
                  simp only [if_true] at a2 a4
                  clear ha hb
                  go_wp2_with fail
                  go_quiet (fail)
                  go_wp2_with fail
                  go_roundw
                  case rel => exact ⟨i + 1, by go_num, by omega, HS.out.drewN _⟩
                  case measure => simp [intOf]; omega
                | false =>
                  have t1 : (bits BinOp.and IntKind.u16 (mvn / 2 ^ i) 1 == 1) = true := by have := congrFun HMB.out.1 i; rw [ha] at this; exact this.symm
                  have t2 : (bits BinOp.and IntKind.u16 (men / 2 ^ i) 1 == 1) = false := by have := congrFun HMB.out.2 i; rw [hb] at this; exact this.symm
                  rw [ha] at a2 a4
                  rw [hb] at a4
                  simp only [if_true, Bool.false_eq_true, if_false] at a2 a4
                  clear ha hb
                  go_wp2_with fail
                  go_quiet (fail)
                  go_wp2_with fail
                  go_roundw
                  case rel => exact ⟨i + 1, by go_num, by omega, HS.out.drewN _⟩
                  case measure => simp [intOf]; omega
              | false =>
                cases hb : me i with
                | true =>
                  have t1 : (bits BinOp.and IntKind.u16 (mvn / 2 ^ i) 1 == 1) = false := by have := congrFun HMB.out.1 i; rw [ha] at this; exact this.symm
                  have t2 : (bits BinOp.and IntKind.u16 (men / 2 ^ i) 1 == 1) = true := by have := congrFun HMB.out.2 i; rw [hb] at this; exact this.symm
                  rw [ha] at a2 a4
                  rw [hb] at a4
                  simp only [if_true, Bool.false_eq_true, if_false] at a2 a4
                  clear ha hb
                  go_wp2_with fail
                  go_quiet (fail)
                  go_wp2_with fail
                  go_roundw
                  case rel => exact ⟨i + 1, by go_num, by omega, HS.out.drewN _⟩
                  case measure => simp [intOf]; omega
                | false =>
                  have t1 : (bits BinOp.and IntKind.u16 (mvn / 2 ^ i) 1 == 1) = false := by have := congrFun HMB.out.1 i; rw [ha] at this; exact this.symm
                  have t2 : (bits BinOp.and IntKind.u16 (men / 2 ^ i) 1 == 1) = false := by have := congrFun HMB.out.2 i; rw [hb] at this; exact this.symm
                  rw [ha] at a2 a4
                  rw [hb] at a4
                  simp only [Bool.false_eq_true, if_false] at a2 a4
                  clear ha hb
                  go_wp2_with fail
                  go_quiet (fail)
                  go_wp2_with fail
                  go_roundw
                  case rel => exact ⟨i + 1, by go_num, by omega, HS.out.drewN _⟩
                  case measure => simp [intOf]; omega
            · have hij2 : i = j := by omega
              subst hij2
              have F0 := Lib.hid (show BTrue W (.returned (.bool true)) wr from ⟨rfl, H4.out.2.trans hs⟩)
              have d1 : decide ((i : Int) < (i : Int)) = false := by simp
              clear hs
              go_wp2_with fail
              go_ret
              exact F0.out
end Go.Proofs.YtedfijmaeoednaaGreatDoor

namespace Go.Proofs.YtedfijmaeoednaaGreatDoor
open Go.RowKit Go.Wh Go.ChangeShapes Go.WideShapes Go.ChangeAt Go.Proofs.YtedfijmaeoednaaGreatDoor.Tw

set_option maxRecDepth 100000 in
theorem indexMoves_lifted (os : Os) (started : os.Started) (H : Type) (enc : TypeId × Value → H) :
    ReturnsInHanded {} Tryz.checked os 5 .any (fun w args => (Rows.indexMovesSpec.pre enc Tryz.prog Tryz.f5 Rows.indexMovesRow.domain false w args ∧ laidMetH Tryz.prog twVars w) ∧ sizedMet enc Tryz.prog Tryz.f5 (OpenSpec.ofChange Rows.indexMovesSpec) false w args)
      (Rows.indexMovesSpec.post enc Tryz.prog Tryz.f5 false true false false) := by
  refine twin_wrap (C := Tryz.checked) (X := fun w _ => laidMetH Tryz.prog twVars w) twOwn started (by kernel_rfl) Tryz.func5
    (ChangeSpec.witness_shaped (enc := enc) (C := Tryz.checked) (os := os) (X := fun w _ => laidMetH Tryz.prog twVars w) false (World.laidAll Tryz.prog os twVars) #[.int .u8 0, .int .u16 0, .int .u16 0] 8 (World.laidAll_os _ _ _)
      (World.shaped_of_ZipB (by kernel_rfl) (by kernel_rfl)) (by kernel_rfl) (by kernel_rfl) (by kernel_rfl)
      (by rw [MakeChecks.laidMetH_plain _ _ _ (by kernel_rfl)]; exact laidMet_laidAll _ (by kernel_rfl) (by kernel_rfl))) ?_
  intro W base args ds gs before hval0 hW hsh
  have hval : ∀ (j : Nat) t v, Tryz.f5.params[j]? = some t → args[j]? = some v → Value.okWide Tryz.prog W .any base t v := hval0
  have hW' := hW
  obtain ⟨p, q, hA0, hV, rfl, _, _⟩ := hW
  have hA : DataW.TrodAll enc Tryz.prog W 0 (fun _ => true) true Tryz.f5.params.toList args.toList ds p := hA0
  rw [Tryz.params5] at hA hval
  obtain ⟨v0, v1, v2, d0, d1, d2, p0, p1, p2, rfl, rfl, rfl, h0, h1, h2⟩ := trodAll_three hA
  obtain ⟨n0, rfl, rfl, rfl, w0⟩ := open_int Tryz.underlying5 (hval 0 5 v0 rfl rfl) h0
  obtain ⟨n1, rfl, rfl, rfl, w1⟩ := open_int Tryz.underlying51 (hval 1 51 v1 rfl rfl) h1
  obtain ⟨n2, rfl, rfl, rfl, w2⟩ := open_int Tryz.underlying51 (hval 2 51 v2 rfl rfl) h2
  have walk : Calls Tryz.prog 5 #[.int .u8 n0, .int .u16 n1, .int .u16 n2] W (BTrue W) := by
    exact moves_walk n0 n1 n2 W (hasM_of_shaped hsh) (byte_wf w0) (u16_wf w1) (u16_wf w2)
  refine walk.mono fun e W' ⟨he, bel⟩ => ?_
  subst he
  exact ⟨_, rfl, law_post twLaid (t := 4) rfl Tryz.underlying4 rfl (by intro t ht; rw [show Tryz.f5.params.toList = [5, 51, 51] from rfl] at ht; simp at ht; rcases ht with rfl | rfl <;> exact ⟨by kernel_rfl, of_decide_eq_true (by kernel_rfl)⟩) hW' rfl bel.below⟩

theorem indexMoves_row : Rows.IndexMovesSaid :=
  OpenClaim.holds_of_wide 5 Tryz.f5 rfl rfl rfl rfl rfl rfl rfl ⟨rfl, rfl, rfl, rfl, rfl⟩ rfl rfl rfl rfl rfl (by kernel_rfl) Tryz.func5 (by kernel_rfl)
    (of_decide_eq_true (by kernel_rfl)) (by unfold Func.isWrapper; first | (rw [if_pos (by decide +kernel)]; kernel_rfl) | (rw [if_neg (by decide +kernel)]; exact ⟨rfl, rfl⟩))
    (fun os started H enc _ => indexMoves_lifted os started H enc)

theorem indexMoves_holds : Rows.IndexMovesCardSaid :=
  Claim7.holds_tied_plain_at .later [] [.data, .pinned] true Rows.indexMovesCard.stood.harness false indexMoves_row (fun _ h => by cases h) (by kernel_rfl) (fun _ h => by cases h) indexMoves_row_tie rfl ⟨rfl, rfl⟩ (by kernel_rfl) rfl
    (fun f fn hf hfn => by
      obtain rfl : f = 5 := Option.some.inj ((show Tryz.prog.funcNamed "whim/whimlaw25.IndexMoves" = some 5 by kernel_rfl).symm.trans hf) |>.symm
      obtain rfl : fn = Tryz.f5 := (Option.some.inj (Tryz.func5.symm.trans hfn)).symm
      exact ⟨by kernel_rfl, fun j t ht => by
        rw [Tryz.params5] at ht
        have hm : t ∈ [5, 51, 51] := by simpa using Array.mem_of_getElem? ht
        have hall : ([5, 51, 51].all fun u => !Tryz.prog.wantsStandIn u) = true := by kernel_rfl
        exact (show Tryz.prog.wantsStandIn t = false by simpa using List.all_eq_true.1 hall t hm)⟩)
    (by kernel_rfl)
#print axioms indexMoves_holds
end Go.Proofs.YtedfijmaeoednaaGreatDoor
