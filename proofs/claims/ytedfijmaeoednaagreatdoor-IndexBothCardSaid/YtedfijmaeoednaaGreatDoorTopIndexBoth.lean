/- IndexBoth: rows by what second key each of twenty-six has. No program but the making of a text. No conditions. IndexBoth: the walk. Conditions: a row of at most forty numbers; the library's variable holds a number. IndexBoth: for every input the law returns true and its arguments read as before; the card. No conditions beyond the row's. -/
import Derived.Test.YtedfijmaeoednaaGreatDoorBx27
import Derived.BigRegion
import Derived.Deep.DeepCutAuto
import Derived.Deep.QuietTactic
import Derived.BigQuiet
import Derived.Deep.RegionHeld3
import Derived.Test.YtedfijmaeoednaaGreatDoorCards
namespace Go.Proofs.YtedfijmaeoednaaGreatDoor
open Go.RowKit Go.Wh Go.Proofs.YtedfijmaeoednaaGreatDoor.Tw

/-- The second key of a number. -/
def ss (t : Nat) : Key := strOfNums [48 + (t : Int)]
theorem ss_list (t : Nat) : (ss t).toList = [(48 + t).toUInt8] := by
  rw [ByteArray.toList_eq]
  unfold ss
  rw [strOfNums_data]
  simp only [List.map_cons, List.map_nil]
  have : (48 + (t : Int)).toNat = 48 + t := by omega
  rw [this]
theorem ss_size (t : Nat) : (ss t).size = 1 := by
  rw [← size_list, ← ByteArray.toList_eq, ss_list]
  rfl
theorem ss_ne (t : Nat) : ss t ≠ ⟨#[]⟩ := fun e => by
  have := congrArg ByteArray.size e
  rw [ss_size] at this
  cases this
theorem ss_inj {a b : Nat} (ha : a < 4) (hb : b < 4) (h : ss a = ss b) : a = b := by
  have h1 := congrArg ByteArray.toList h
  rw [ss_list, ss_list] at h1
  simp only [List.cons.injEq, and_true] at h1
  have h2 := congrArg UInt8.toNat h1
  simp [UInt8.toNat_ofNat'] at h2
  omega

def upd1 (own : Nat → Key) (k : Nat) (v : Key) : Nat → Key := fun j => if j = k then v else own j
theorem upd1_same (own : Nat → Key) (k : Nat) (v : Key) : upd1 own k v k = v := if_pos rfl
theorem upd1_other (own : Nat → Key) {k j : Nat} (v : Key) (h : j ≠ k) : upd1 own k v j = own j := if_neg h
def oCells (own : Nat → Key) : List Value := (List.range 26).map fun k => .string (own k)
theorem oCells_get (own : Nat → Key) (k : Nat) (hk : k < 26) : (oCells own)[k]? = some (.string (own k)) := by
  unfold oCells
  simp [hk]
theorem oCells_set (own : Nat → Key) (k : Nat) (v : Key) : (oCells own).set k (.string v) = oCells (upd1 own k v) := by
  unfold oCells
  apply List.ext_getElem?
  intro i
  rw [List.getElem?_set]
  by_cases hik : k = i
  · subst hik
    by_cases hk : k < 26
    · simp [hk, upd1_same]
    · simp [hk]
  · rw [if_neg hik]
    by_cases hi : i < 26
    · simp [hi, upd1_other own v (Ne.symm hik)]
    · simp [hi]

def row1 (own : Nat → Key) (k : Nat) : Rw := ⟨kk k, own k, (k, 0), (k, 0)⟩
/-- The rows that there are. -/
def bh (own : Nat → Key) : Nat → Option Rw := fun k => if own k = ⟨#[]⟩ then none else some (row1 own k)
theorem bh_named (own : Nat → Key) : Named (bh own) := ⟨fun j _ r hr => by
  unfold bh at hr
  split at hr
  · cases hr
  · cases hr; rfl⟩
theorem bh_none {own : Nat → Key} {k : Nat} (h : own k = ⟨#[]⟩) : bh own k = none := if_pos h
theorem bh_some {own : Nat → Key} {k : Nat} (h : own k ≠ ⟨#[]⟩) : bh own k = some (row1 own k) := if_neg h

theorem bh_cut {own : Nat → Key} {k : Nat} (hk : k < 26) : delR (rowsH (bh own)) (kk k) = rowsH (bh (upd1 own k ⟨#[]⟩)) := by
  rw [del_rowsH (bh_named own) hk]
  refine rowsH_congr fun j _ => ?_
  by_cases e : j = k
  · subst e
    rw [updH_same, bh_none (upd1_same _ _ _)]
  · rw [updH_other _ _ e]
    unfold bh row1
    rw [upd1_other _ _ e]
theorem bh_err {own : Nat → Key} {k : Nat} (hk : k < 26) : errOf (getR (rowsH (bh own)) (kk k)) = if own k = ⟨#[]⟩ then .int .i64 9 else .int .i64 0 := by
  rw [get_rowsH (bh_named own) hk]
  unfold bh
  split <;> rfl
theorem may1 (k t : Nat) : mayB (kk k) (ss t) ⟨#[]⟩ = true := by
  have e3 : (⟨#[]⟩ : Key).size = 0 := rfl
  unfold mayB
  rw [kk_size, ss_size, e3]
  rfl
theorem bh_put {own : Nat → Key} {k t : Nat} (hk : k < 26) (h0 : own k = ⟨#[]⟩) : putR (rowsH (bh own)) (kk k) (ss t) ⟨#[]⟩ (k, 0) = rowsH (bh (upd1 own k (ss t))) ∧ putE (rowsH (bh own)) (kk k) (ss t) ⟨#[]⟩ = 0 := by
  have h2 : getR (rowsH (bh own)) (kk k) = none := by rw [get_rowsH (bh_named own) hk, bh_none h0]
  unfold putR putE
  rw [may1, h2]
  refine ⟨?_, rfl⟩
  show insR (rowsH (bh own)) ⟨kk k, ss t, (k, 0), (k, 0)⟩ = _
  rw [ins_rowsH (bh_named own) hk rfl]
  refine rowsH_congr fun j _ => ?_
  by_cases e : j = k
  · subst e
    rw [updH_same, bh_some (by rw [upd1_same]; exact ss_ne t)]
    unfold row1
    rw [upd1_same]
  · rw [updH_other _ _ e]
    unfold bh row1
    rw [upd1_other _ _ e]
theorem bh_dup {own : Nat → Key} {k t : Nat} (hk : k < 26) (h0 : own k ≠ ⟨#[]⟩) (v : Rid) : putR (rowsH (bh own)) (kk k) (ss t) ⟨#[]⟩ v = rowsH (bh own) ∧ putE (rowsH (bh own)) (kk k) (ss t) ⟨#[]⟩ = 8 := by
  have h2 : getR (rowsH (bh own)) (kk k) = some (row1 own k) := by rw [get_rowsH (bh_named own) hk, bh_some h0]
  unfold putR putE
  rw [may1, h2]
  exact ⟨rfl, rfl⟩

/-- The rows of one second key. -/
def bq (own : Nat → Key) (s : Nat) : Nat → Option Rw := fun k => if own k = ss s then some (row1 own k) else none
theorem bq_seek (own : Nat → Key) (s : Nat) : seekR (rowsH (bh own)) (ss s) = rowsH (bq own s) := by
  unfold seekR rowsH
  rw [List.filter_filterMap]
  refine filterMap_same fun k _ => ?_
  unfold bh bq
  by_cases h0 : own k = ⟨#[]⟩
  · rw [if_pos h0, if_neg (by rw [h0]; exact (ss_ne s).symm)]
    rfl
  · rw [if_neg h0]
    by_cases h1 : own k = ss s
    · rw [if_pos h1]
      simp [Option.filter, row1, h1]
    · rw [if_neg h1]
      simp [Option.filter, row1, h1]

/-- How many of the first second keys. -/
def tot (own : Nat → Key) : Nat → Nat → Nat
  | 0, _ => 0
  | s + 1, i => tot own s i + cntH (bq own s) i
theorem tot_zero (own : Nat → Key) : ∀ s, tot own s 0 = 0
  | 0 => rfl
  | s + 1 => by
    unfold tot
    rw [tot_zero own s]
    rfl
theorem tot_succ (own : Nat → Key) (i : Nat) : ∀ s, s ≤ 4 → tot own s (i + 1) = tot own s i + if ∃ t, t < s ∧ own i = ss t then 1 else 0
  | 0, _ => by
    have : ¬ ∃ t, t < 0 ∧ own i = ss t := fun ⟨t, h, _⟩ => by omega
    rw [if_neg this]
    rfl
  | s + 1, hs => by
    unfold tot
    rw [tot_succ own i s (by omega), cntH_succ]
    by_cases h1 : own i = ss s
    · have hno : ¬ ∃ t, t < s ∧ own i = ss t := fun ⟨t, ht, e⟩ => by
        have := ss_inj (by omega) (by omega) (h1.symm.trans e)
        omega
      have eA : (if ∃ t, t < s ∧ own i = ss t then 1 else 0 : Nat) = 0 := if_neg hno
      have eB : (if (bq own s i).isSome = true then 1 else 0 : Nat) = 1 := by unfold bq; rw [if_pos h1]; rfl
      have eC : (if ∃ t, t < s + 1 ∧ own i = ss t then 1 else 0 : Nat) = 1 := if_pos ⟨s, by omega, h1⟩
      rw [eA, eB, eC]
      omega
    · have eB : (if (bq own s i).isSome = true then 1 else 0 : Nat) = 0 := by unfold bq; rw [if_neg h1]; rfl
      have e : (∃ t, t < s ∧ own i = ss t) ↔ ∃ t, t < s + 1 ∧ own i = ss t := ⟨fun ⟨t, h, e⟩ => ⟨t, by omega, e⟩, fun ⟨t, h, e⟩ => ⟨t, by
        rcases Nat.lt_or_ge t s with h2 | h2
        · exact h2
        · have : t = s := by omega
          subst this
          exact absurd e h1, e⟩⟩
      have eC : (if ∃ t, t < s ∧ own i = ss t then 1 else 0 : Nat) = (if ∃ t, t < s + 1 ∧ own i = ss t then 1 else 0 : Nat) := by
        simp only [e]
      rw [eB, eC]
      omega
theorem tot_all {own : Nat → Key} (hv : ∀ k, k < 26 → own k = ⟨#[]⟩ ∨ ∃ t, t < 4 ∧ own k = ss t) : ∀ i, i ≤ 26 → tot own 4 i = cntH (bh own) i
  | 0, _ => tot_zero own 4
  | i + 1, hi => by
    rw [tot_succ own i 4 (Nat.le_refl _), cntH_succ, tot_all hv i (by omega)]
    rcases hv i (by omega) with h | h
    · rw [bh_none h, if_neg]
      · rfl
      · rintro ⟨t, _, e⟩
        exact ss_ne t (e.symm.trans h)
    · obtain ⟨t, ht, e⟩ := h
      rw [if_pos ⟨t, ht, e⟩, bh_some (by rw [e]; exact ss_ne t)]
      rfl

theorem bq_at {own : Nat → Key} {s k : Nat} (hk : k < 26) (h : own k = ss s) : (rowsH (bq own s))[cntH (bq own s) k]? = some (row1 own k) := rowsH_at hk (by unfold bq; rw [if_pos h])
theorem cnt_le (h : Nat → Option Rw) (i : Nat) : cntH h i ≤ i := by
  have := List.length_filterMap_le h (List.range i)
  rw [List.length_range] at this
  exact this
theorem tot_le (own : Nat → Key) (i : Nat) : ∀ s, tot own s i ≤ s * i
  | 0 => by simp [tot]
  | s + 1 => by
    unfold tot
    have h1 := tot_le own i s
    have h2 := cnt_le (bq own s) i
    rw [Nat.add_mul]
    omega

structure BothS (W : World) (x ob : Nat) (own : Nat → Key) (w : World) : Prop where
  ix : OwnX W (fun b => b = ob) w x (rowsH (bh own))
  still : Still W w
  lo : W.heap.size ≤ ob
  cells : cellsAt w ob (oCells own)
  val : ∀ k, k < 26 → own k = ⟨#[]⟩ ∨ ∃ t, t < 4 ∧ own k = ss t

section
variable {W w w' : World} {x ob : Nat} {own : Nat → Key}
theorem BothS.later (h : BothS W x ob own w) (hs : Still w w') : BothS W x ob own w' :=
  ⟨h.ix.still hs, h.still.trans hs, h.lo, h.cells.only hs fun e => e, h.val⟩
theorem BothS.cell (h : BothS W x ob own w) {k : Nat} (hk : k < 26) : w.cell? ⟨ob, k, none⟩ = some (.string (own k)) := (h.cells.cell k).trans (oCells_get own k hk)
/-- Turned, and noted. -/
theorem BothS.turn (h : BothS W x ob own w) {k : Nat} {v : Key} (hv : v = ⟨#[]⟩ ∨ ∃ t, t < 4 ∧ v = ss t) (ht : OwnX W (fun b => b = ob) w' x (rowsH (bh (upd1 own k v)))) (hm : Mine W (fun b => b = ob) w w') :
    BothS W x ob (upd1 own k v) (w'.setCell ⟨ob, k, none⟩ (.string v)) := by
  have h0 : ¬ (0 : Nat) = ob := fun e => by
    have h1 := h.ix.m
    have h2 := hasM_pos h1
    obtain ⟨F, h3, h4, h5⟩ := h.ix
    have h6 := h.lo
    obtain ⟨m, hm⟩ := h1
    have := h.cells.cell 0
    rw [← e] at this
    have h7 : w.cell? ⟨0, 0, none⟩ = some (.string (own 0)) := this.trans (oCells_get own 0 (by omega))
    rw [hm] at h7
    cases h7
  refine ⟨ht.only (setCell_only w' ⟨ob, k, none⟩ _) (fun b e => e) h0, Only.setCell (hm.still h.still) (.inr h.lo) _, h.lo, ?_, fun j hj => ?_⟩
  · rw [← oCells_set]
    exact (h.cells.only hm fun e => e.2 rfl).setCell k _
  · by_cases e : j = k
    · subst e; rw [upd1_same]; exact hv
    · rw [upd1_other _ _ e]; exact h.val j hj
theorem BothS.dup (h : BothS W x ob own w) (ht : OwnX W (fun b => b = ob) w' x (rowsH (bh own))) (hm : Mine W (fun b => b = ob) w w') : BothS W x ob own w' :=
  ⟨ht, hm.still h.still, h.lo, h.cells.only hm fun e => e.2 rfl, h.val⟩
theorem BothS.start {w1 w2 : World} (hs : Still W w1) (ho : OwnX W (fun _ => False) w2 x []) (hs2 : Still w1 w2) (tt : TypeId) : BothS W x w2.heap.size (fun _ => ⟨#[]⟩) (w2.alloc (.cells (oCells fun _ => ⟨#[]⟩).toArray tt)) := by
  have h12 := hs.trans hs2
  have h3 : Still w2 (w2.alloc (.cells (oCells fun _ => ⟨#[]⟩).toArray tt)) := (Still.refl _).alloc _
  have e : rowsH (bh fun _ => ⟨#[]⟩) = [] := by
    unfold rowsH
    rw [List.filterMap_eq_nil_iff]
    intro j _
    rfl
  refine ⟨?_, h12.trans h3, h12.size, cellsAt_new w2 _ tt, fun _ _ => .inl rfl⟩
  rw [e]
  obtain ⟨F, h1, h2, -⟩ := ho
  refine ⟨F, h1.still h3, fun b hb => ⟨(h2 b hb).1, fun e => ?_⟩, fun b e => ?_⟩
  · have := h1.lt b hb
    omega
  · subst e
    simp
end
end Go.Proofs.YtedfijmaeoednaaGreatDoor

namespace Go.Proofs.YtedfijmaeoednaaGreatDoor
open Go.RowKit Go.Wh Go.Proofs.YtedfijmaeoednaaGreatDoor.Tw

/-- A text of one byte, wherever it lies. -/
theorem conv_at {w : World} {g : Nat} {x : Int} (h : w.cell? ⟨g, 0, none⟩ = some (.int .u8 x)) : (convert 52 9 (.slice (some ⟨g, 0, none⟩) 1 1)).run Tryz.prog w = .ok (.string (strOfNums [x])) w :=
  run_convert_bytes_arg _ 52 5 Tryz.underlying52 Tryz.underlying5 g 0 1 1 [x] rfl (fun i hi => by
    have : i = 0 := by omega
    subst this
    rw [Nat.zero_add, h]
    rfl) 9 Tryz.underlying9

theorem lists_at2 {w w' : World} {Q : List Rw} {f : Rw → Rid} {kv vv : Value} {k : Nat} (h : Lists w w' (rkeys Q) (Q.map f) kv vv) (hk : Q.length = k) (h1 : 1 ≤ k) :
    ∃ g1 o1 c1 g2 o2 c2, kv = .slice (some ⟨g1, o1, none⟩) k c1 ∧ vv = .slice (some ⟨g2, o2, none⟩) k c2 ∧ ∀ j r, Q[j]? = some r → w'.cell? ⟨g1, o1 + j, none⟩ = some (.string r.key) ∧ w'.cell? ⟨g2, o2 + j * 2, none⟩ = some (.int .i64 (f r).1) ∧ w'.cell? ⟨g2, o2 + j * 2 + 1, none⟩ = some (.int .i64 (f r).2) := by
  have hkv := h.k
  have hvv := h.v
  have e1 : (rkeys Q).length = k := (List.length_map _).trans hk
  have e2 : (Q.map f).length = k := (List.length_map _).trans hk
  rw [e1] at hkv
  rw [e2] at hvv
  obtain ⟨g1, o1, c1, rfl, hk1⟩ := hkv.form (by omega)
  obtain ⟨g2, o2, c2, rfl, hv1⟩ := hvv.form (by omega)
  refine ⟨g1, o1, c1, g2, o2, c2, rfl, rfl, fun j r hr => ?_⟩
  have hj : j < k := by rw [← hk]; exact (List.getElem?_eq_some_iff.1 hr).1
  have q1 : (rkeys Q)[j]? = some r.key := by unfold rkeys; rw [List.getElem?_map, hr]; rfl
  have q2 : (Q.map f)[j]? = some (f r) := by rw [List.getElem?_map, hr]; rfl
  have q3 := rcells_get (Q.map f) j (f r) q2
  refine ⟨?_, ?_, ?_⟩
  · rw [hk1.cell j (by omega)]
    exact kcells_get q1
  · rw [hv1.cell (j * 2) (by omega)]
    exact q3.1
  · rw [Nat.add_assoc, hv1.cell (j * 2 + 1) (by omega)]
    exact q3.2

set_option maxHeartbeats 4000000 in
set_option maxRecDepth 100000 in
theorem both_walk (a0 : Option Addr) (m cap : Nat) (zs : List Int) (W : World) (hmm : HasM W) (hr : IsRow .u16 W a0 m zs) (hm : m ≤ 40) :
    Calls Tryz.prog 4 #[.slice a0 m cap] W (BTrue W) := by
  have HR := Lib.hid hr
  have HM := Lib.hid hm
  have HBG := Lib.hid (begun_any W hmm)
  have HMM := Lib.hid hmm
  have a0m : decide ((40 : Int) < (m : Int)) = false := by simp; omega
  have a0m' : decide (40 < m) = false := by simp; omega
  clear hr hm hmm
  go_enter Tryz.func4, Tryz.ntmps4
  go_wp2_with fail
  refine HBG.out.mono ?_
  rintro e w1 ⟨rfl, hs1⟩
  have HN := Lib.hid (ox_new (w0 := W) (A := fun _ => False) hs1 (HasM.only HMM.out hs1 fun e => e) (fun _ e => e.elim))
  have HS1 := Lib.hid hs1
  clear hs1 HBG
  go_wp2_with fail
  refine HN.out.mono ?_
  rintro e w2 ⟨x, rfl, ho2, hs2⟩
  have HS := Lib.hid (BothS.start HS1.out ho2 hs2)
  clear ho2 hs2 HN HS1
  unfold ptr
  go_wp2_with fail
  have hS := HS.out 50
  have HS' := Lib.hid (show BothS W x w2.heap.size (fun _ => ⟨#[]⟩) (w2.alloc (.cells #[.string ⟨#[]⟩, .string ⟨#[]⟩, .string ⟨#[]⟩, .string ⟨#[]⟩, .string ⟨#[]⟩, .string ⟨#[]⟩, .string ⟨#[]⟩, .string ⟨#[]⟩, .string ⟨#[]⟩, .string ⟨#[]⟩, .string ⟨#[]⟩, .string ⟨#[]⟩, .string ⟨#[]⟩, .string ⟨#[]⟩, .string ⟨#[]⟩, .string ⟨#[]⟩, .string ⟨#[]⟩, .string ⟨#[]⟩, .string ⟨#[]⟩, .string ⟨#[]⟩, .string ⟨#[]⟩, .string ⟨#[]⟩, .string ⟨#[]⟩, .string ⟨#[]⟩, .string ⟨#[]⟩, .string ⟨#[]⟩] 50)) from hS)
  clear hS HS
  generalize (w2.alloc (.cells #[.string ⟨#[]⟩, .string ⟨#[]⟩, .string ⟨#[]⟩, .string ⟨#[]⟩, .string ⟨#[]⟩, .string ⟨#[]⟩, .string ⟨#[]⟩, .string ⟨#[]⟩, .string ⟨#[]⟩, .string ⟨#[]⟩, .string ⟨#[]⟩, .string ⟨#[]⟩, .string ⟨#[]⟩, .string ⟨#[]⟩, .string ⟨#[]⟩, .string ⟨#[]⟩, .string ⟨#[]⟩, .string ⟨#[]⟩, .string ⟨#[]⟩, .string ⟨#[]⟩, .string ⟨#[]⟩, .string ⟨#[]⟩, .string ⟨#[]⟩, .string ⟨#[]⟩, .string ⟨#[]⟩, .string ⟨#[]⟩] 50)) = w3 at HS' ⊢
  generalize w2.heap.size = ob at HS' ⊢
  go_loopw [5] (fun iv wr => ∃ (i : Nat) (own : Nat → Key), iv = .int .i64 i ∧ i ≤ m ∧ BothS W x ob own wr) (fun s _ => m - (intOf s).toNat)
  case atStart => exact ⟨0, fun _ => ⟨#[]⟩, rfl, Nat.zero_le _, HS'.out⟩
  case round =>
    clear HS'
    obtain ⟨i, own, rfl, hin, hs⟩ := hrel
    have HL := Lib.hid hs
    clear hs
    by_cases hi : i < m
    · have a1 : decide ((i : Int) < (m : Int)) = true := by simp; omega
      have a2 : decide (i < m) = true := by simp; omega
      have a3 : (0 : Int) ≤ (i : Int) := by omega
      have a4 : (i : Int) < (m : Int) := by omega
      have u9 : IntKind.i64.wrap ((i : Int) + 1) = (i : Int) + 1 := IntWalk.i64_in _ (by have := HM.out; omega)
      obtain ⟨b, off, hab, hcW, hwf⟩ := isRow_later HR.out (Below.refl _ _) hi
      subst hab
      have hcell := Still.cell HL.out.still hcW
      have hwf' := u16_wf hwf
      obtain ⟨z, hz⟩ : ∃ z, zs.getD i 0 = z := ⟨_, rfl⟩
      rw [hz] at hcell hwf' hwf
      obtain ⟨z0, z1⟩ := hwf'
      clear hcW hz
      obtain ⟨k, hk⟩ : ∃ k : Nat, z % 26 = (k : Int) := ⟨(z % 26).toNat, by omega⟩
      obtain ⟨t, ht⟩ : ∃ t : Nat, z / 26 % 4 = (t : Int) := ⟨(z / 26 % 4).toNat, by omega⟩
      have hk26 : k < 26 := by omega
      have ht4 : t < 4 := by omega
      have HKT := Lib.hid (And.intro hk (And.intro ht (And.intro hk26 ht4)))
      clear hwf
      go_upto_region 11 with fail
      rw [hk]
      go_cut [7, 8] (fun kv sv wc => kv = .string (kk k) ∧ sv = .string (ss t) ∧ Still wr wc)
      case first =>
        have g1 : z.tdiv 26 = z / 26 := Int.tdiv_eq_ediv_of_nonneg z0
        have g2 : IntKind.u16.wrap (z / 26) = z / 26 := IntWalk.u16_in _ (by omega)
        have g3 : (z / 26).tmod 4 = (t : Int) := by rw [IntWalk.rem_in _ _ (by omega), ht]
        have g4 : IntKind.u16.wrap (48 + (t : Int)) = 48 + t := IntWalk.u16_in _ (by omega)
        have g5 : (48 + (t : Int)) % 256 = 48 + t := by omega
        have g6 : IntKind.u8.wrap (48 + (t : Int)) = 48 + t := IntWalk.u8_in _ (by omega)
        have f1 : IntKind.i64.wrap (97 + (k : Int)) = 97 + k := IntWalk.i64_in _ (by omega)
        have f2 : IntKind.u8.wrap (97 + (k : Int)) = 97 + k := IntWalk.u8_in _ (by omega)
        have q1 : (convert 52 9 (.slice (some ⟨wr.heap.size, 0, none⟩) 1 1)).run Tryz.prog (wr.alloc (.cells #[.int .u8 (97 + (k : Int))] 5)).drew = .ok (.string (kk k)) (wr.alloc (.cells #[.int .u8 (97 + (k : Int))] 5)).drew :=
          conv_at ((cellsAt_new wr [.int .u8 (97 + (k : Int))] 5).drew.cell 0)
        have q2 : (convert 52 9 (.slice (some ⟨wr.heap.size, 0, none⟩) 1 1)).run Tryz.prog (wr.alloc (.cells #[.int .u8 (48 + (t : Int))] 5)).drew = .ok (.string (ss t)) (wr.alloc (.cells #[.int .u8 (48 + (t : Int))] 5)).drew :=
          conv_at ((cellsAt_new wr [.int .u8 (48 + (t : Int))] 5).drew.cell 0)
        have q3 : (convert 52 9 (.slice (some ⟨wr.heap.size, 0, none⟩) 1 1)).run Tryz.prog ((wr.alloc (.cells #[.int .u8 (97 + (k : Int))] 5)).alloc (.cells #[.int .u8 (48 + (t : Int))] 5)).drew = .ok (.string (kk k)) ((wr.alloc (.cells #[.int .u8 (97 + (k : Int))] 5)).alloc (.cells #[.int .u8 (48 + (t : Int))] 5)).drew :=
          conv_at (((cellsAt_new wr [.int .u8 (97 + (k : Int))] 5).alloc _).drew.cell 0)
        have q4 : (convert 52 9 (.slice (some ⟨wr.heap.size, 0, none⟩) 1 1)).run Tryz.prog ((wr.alloc (.cells #[.int .u8 (48 + (t : Int))] 5)).alloc (.cells #[.int .u8 (97 + (k : Int))] 5)).drew = .ok (.string (ss t)) ((wr.alloc (.cells #[.int .u8 (48 + (t : Int))] 5)).alloc (.cells #[.int .u8 (97 + (k : Int))] 5)).drew :=
          conv_at (((cellsAt_new wr [.int .u8 (48 + (t : Int))] 5).alloc _).drew.cell 0)
        have q5 : (convert 52 9 (.slice (some ⟨wr.heap.size + 1, 0, none⟩) 1 1)).run Tryz.prog ((wr.alloc (.cells #[.int .u8 (97 + (k : Int))] 5)).alloc (.cells #[.int .u8 (48 + (t : Int))] 5)).drew = .ok (.string (ss t)) ((wr.alloc (.cells #[.int .u8 (97 + (k : Int))] 5)).alloc (.cells #[.int .u8 (48 + (t : Int))] 5)).drew :=
          conv_at (by simp)
        have q6 : (convert 52 9 (.slice (some ⟨wr.heap.size + 1, 0, none⟩) 1 1)).run Tryz.prog ((wr.alloc (.cells #[.int .u8 (48 + (t : Int))] 5)).alloc (.cells #[.int .u8 (97 + (k : Int))] 5)).drew = .ok (.string (kk k)) ((wr.alloc (.cells #[.int .u8 (48 + (t : Int))] 5)).alloc (.cells #[.int .u8 (97 + (k : Int))] 5)).drew :=
          conv_at (by simp)
        have HD := Lib.hid (fun A B => show Still wr ((wr.alloc A).alloc B).drew from ((Still.refl wr).alloc A |>.alloc B).drew)
        have hc2 := fun ob => Still.cell ((Still.refl wr).alloc ob) hcell
        clear hk ht hk26 ht4
        go_region
        all_goals
          go_wp2_with fail
          go_meet
          exact ⟨rfl, rfl, HD.out _ _⟩
      case rest =>
        obtain ⟨rfl, rfl, hst⟩ := hcut
        have HLc := Lib.hid (HL.out.later hst)
        have hcc := Still.cell hst hcell
        obtain ⟨q, hq⟩ : ∃ q : Bool, ((IntKind.u16.wrap (z.tdiv 104)).tmod 4 == 0) = q := ⟨_, rfl⟩
        clear hst hcell hk ht
        go_upto_if 57 with fail
        have hc4 := HLc.out.cell hk26
        have hf4 := HLc.out.cells.free k
        have hrl := rowsH_length (bh own)
        have HCU := Lib.hid (fun w' (hs : Still wc w') => (ox_cut (HLc.out.ix.still hs) (by omega) (HLc.out.still.trans hs) (kk k) (bh_cut hk26) (bh_err hk26)).mono (fun e w'' (h : _ ∧ _ ∧ _) => show e = .returned (if own k = ⟨#[]⟩ then .int .i64 9 else .int .i64 0) ∧ Hid (BothS W x ob (upd1 own k ⟨#[]⟩) (w''.setCell ⟨ob, k, none⟩ (.string ⟨#[]⟩))) ∧ w''.cell? ⟨ob, k, none⟩ = some (.string (own k)) ∧ w''.frozen? ⟨ob, k, none⟩ = false from
          ⟨h.1, Lib.hid ((HLc.out.later hs).turn (.inl rfl) h.2.1 h.2.2), (Only.cell h.2.2 (World.block_lt_of_cell? _ _ (Still.cell hs hc4)) fun e => e.2 rfl).trans (Still.cell hs hc4), ((HLc.out.later hs).cells.only h.2.2 fun e => e.2 rfl).free k⟩))
        have HP0 := Lib.hid (fun (h0 : own k = ⟨#[]⟩) w' (hs : Still wc w') => (ox_put (HLc.out.ix.still hs) (by omega) (HLc.out.still.trans hs) (kk k) (ss t) ⟨#[]⟩ (k : Int) 0 (by rw [kk_size]; omega) (by rw [ss_size]; omega) (by decide) (bh_put hk26 h0).1 (bh_put hk26 h0).2).mono (fun e w'' (h : _ ∧ _ ∧ _) => show e = .returned (.int .i64 0) ∧ Hid (BothS W x ob (upd1 own k (ss t)) (w''.setCell ⟨ob, k, none⟩ (.string (ss t)))) ∧ w''.cell? ⟨ob, k, none⟩ = some (.string (own k)) ∧ w''.frozen? ⟨ob, k, none⟩ = false from
          ⟨h.1, Lib.hid ((HLc.out.later hs).turn (.inr ⟨t, ht4, rfl⟩) h.2.1 h.2.2), (Only.cell h.2.2 (World.block_lt_of_cell? _ _ (Still.cell hs hc4)) fun e => e.2 rfl).trans (Still.cell hs hc4), ((HLc.out.later hs).cells.only h.2.2 fun e => e.2 rfl).free k⟩))
        have HP1 := Lib.hid (fun (h0 : own k ≠ ⟨#[]⟩) w' (hs : Still wc w') => (ox_put (HLc.out.ix.still hs) (by omega) (HLc.out.still.trans hs) (kk k) (ss t) ⟨#[]⟩ 0 0 (by rw [kk_size]; omega) (by rw [ss_size]; omega) (by decide) (bh_dup hk26 h0 (0, 0)).1 (bh_dup hk26 h0 (0, 0)).2).mono (fun e w'' (h : _ ∧ _ ∧ _) => show e = .returned (.int .i64 8) ∧ Hid (BothS W x ob own w'') from
          ⟨h.1, Lib.hid ((HLc.out.later hs).dup h.2.1 h.2.2)⟩))
        have HST := Lib.hid (Still.refl wc)
        have e1 : (0 : Int) ≤ (k : Int) := by omega
        have e2 : (k : Int) < 26 := by omega
        obtain ⟨ov, hov⟩ : ∃ ov, own k = ov := ⟨_, rfl⟩
        rw [hov] at hc4 HCU HP0 HP1
        clear hov hrl HLc HL hq
        by_cases h0 : ov = ⟨#[]⟩
        · have HP := Lib.hid (HP0.out h0)
          subst h0
          simp only [if_true] at HCU
          clear HP0 HP1
          cases q with
          | true =>
            clear HP
            go_wp2_with fail
            go_region_held3 (fun w' => w'.cell? ⟨ob, k, none⟩ = some (.string ⟨#[]⟩)) (first | assumption | go_keep) (first | (go_at_call 8; (with_reducible refine (HCU.out _ HST.out.drew).mono ?_); rintro e w5 ⟨rfl, HO5, c5, f5⟩))
            go_wp2_with fail
            go_roundw
            case rel => exact ⟨i + 1, _, by go_num, by omega, HO5.out⟩
            case measure => simp [intOf]; omega
          | false =>
            clear HCU
            go_wp2_with fail
            refine (HP.out _ (Still.refl _)).mono ?_
            rintro e w5 ⟨rfl, HO5, c5, f5⟩
            go_wp2_with fail
            go_roundw
            case rel => exact ⟨i + 1, _, by go_num, by omega, HO5.out⟩
            case measure => simp [intOf]; omega
        · have HP := Lib.hid (HP1.out h0)
          rw [if_neg h0] at HCU
          have n0 : ov.toList ≠ [] := fun e => h0 (key_ext (e.trans (by rw [ByteArray.toList_eq])))
          have n1 : (!ov.toList.isEmpty) = true := by simpa using n0
          have n2 : ov.toList.isEmpty = false := by simpa using n0
          clear HP0 HP1
          cases q with
          | true =>
            clear HP
            go_wp2_with fail
            go_region_held3 (fun w' => w'.cell? ⟨ob, k, none⟩ = some (.string ov)) (first | assumption | go_keep) (first | (go_at_call 8; (with_reducible refine (HCU.out _ HST.out.drew).mono ?_); rintro e w5 ⟨rfl, HO5, c5, f5⟩))
            go_wp2_with fail
            go_roundw
            case rel => exact ⟨i + 1, _, by go_num, by omega, HO5.out⟩
            case measure => simp [intOf]; omega
          | false =>
            clear HCU
            go_wp2_with fail
            refine (HP.out _ (Still.refl _)).mono ?_
            rintro e w5 ⟨rfl, HO5⟩
            go_wp2_with fail
            go_roundw
            case rel => exact ⟨i + 1, _, by go_num, by omega, HO5.out⟩
            case measure => simp [intOf]; omega
    · have hge : i = m := by omega
      subst hge
      have a1 : decide ((i : Int) < (i : Int)) = false := by simp
      have hrl := rowsH_length (bh own)
      have HF := Lib.hid (ox_from HL.out.ix (by omega) ⟨#[]⟩ (from_empty _))
      go_wp2_with fail
      refine HF.out.mono ?_
      rintro e w5 ⟨kv, vv, rfl, hl5, hs5⟩
      have HL5 := Lib.hid (HL.out.later hs5)
      obtain ⟨ka, kc, rfl⟩ := hl5.k.form'
      obtain ⟨va, vc, rfl⟩ := hl5.v.form'
      obtain ⟨N, hN⟩ : ∃ N, (rowsH (bh own)).length = N := ⟨_, rfl⟩
      have hN1 : (rkeys (rowsH (bh own))).length = N := (List.length_map _).trans hN
      have hN2 : ((rowsH (bh own)).map Rw.f).length = N := (List.length_map _).trans hN
      rw [hN1, hN2]
      have HNN := Lib.hid (show N = tot own 4 26 ∧ N ≤ 26 from ⟨by rw [tot_all HL5.out.val 26 (by omega), ← hN]; rfl, by omega⟩)
      have HN2 := Lib.hid hN
      clear hl5 hs5 HF HL hN1 hN2 hN hrl
      go_wp2_with fail
      go_loopw [11, 12] (fun nv sv wr => ∃ s : Nat, nv = .int .i64 (tot own s 26 : Nat) ∧ sv = .int .i64 s ∧ s ≤ 4 ∧ Still w5 wr) (fun _ sv _ => 4 - (intOf sv).toNat)
      case atStart => exact ⟨0, rfl, rfl, by omega, Still.refl _⟩
      case round =>
        obtain ⟨s, rfl, rfl, hs4, hst⟩ := hrel
        by_cases hlt : s < 4
        · have hb := HL5.out.later hst
          have hrl := rowsH_length (bh own)
          have HSK := Lib.hid (fun w' (hs : Still wr w') => ox_seek (hb.ix.still hs) (by omega) (ss s) (by rw [ss_size]; omega) (bq_seek own s))
          have HB := Lib.hid hb
          have htl := tot_le own 26 s
          have HTT := Lib.hid (show tot own (s + 1) 26 = tot own s 26 + cntH (bq own s) 26 from rfl)
          have HST := Lib.hid hst
          generalize tot own s 26 = tn at htl HTT ⊢
          have d1 : decide ((s : Int) < 4) = true := by simp; omega
          have d2 : decide (s < 4) = true := by simp; omega
          have cv := conv1
          unfold ss at HSK
          clear hb hrl hst
          go_wp2_with fail
          refine (HSK.out _ ((Still.refl _).alloc _)).mono ?_
          rintro e w6 ⟨kv, vv, rfl, hl6, hs6⟩
          have hs06 := ((Still.refl wr).alloc (.cells #[.int .u8 (48 + (s : Int))] 5)).trans hs6
          have HB6 := Lib.hid (HB.out.later hs06)
          have HS6 := Lib.hid (HST.out.trans hs06)
          obtain ⟨L, hL⟩ : ∃ L, (rowsH (bq own s)).length = L := ⟨_, rfl⟩
          have hL1 : (rkeys (rowsH (bq own s))).length = L := (List.length_map _).trans hL
          have hL2 : ((rowsH (bq own s)).map Rw.n).length = L := (List.length_map _).trans hL
          have HL6 := Lib.hid (fun (h1 : 1 ≤ L) => lists_at2 hl6 hL h1)
          obtain ⟨ka6, kc6, rfl⟩ := hl6.k.form'
          obtain ⟨va6, vc6, rfl⟩ := hl6.v.form'
          rw [hL1, hL2] at HL6 ⊢
          have HLL := Lib.hid (show L = cntH (bq own s) 26 ∧ L ≤ 26 from ⟨hL.symm, by have := rowsH_length (bq own s); omega⟩)
          have HL0 := Lib.hid hL
          clear hl6 hs6 hs06 hL hL1 hL2 HSK HB HST cv
          go_wp2_with fail
          go_loopw [16, 17] (fun mv kv2 wr => ∃ k : Nat, mv = .int .i64 (cntH (bq own s) k : Nat) ∧ kv2 = .int .i64 k ∧ k ≤ 26 ∧ Still w6 wr) (fun _ kv _ => 26 - (intOf kv).toNat)
          case atStart => exact ⟨0, rfl, rfl, by omega, Still.refl _⟩
          case round =>
            obtain ⟨k, rfl, rfl, hk26, hst2⟩ := hrel
            by_cases hk : k < 26
            · have hcell := (HB6.out.later hst2).cell hk
              have HST2 := Lib.hid hst2
              have hcs := cntH_succ (bq own s) k
              have hcl := cnt_le (bq own s) k
              have d3 : decide ((k : Int) < 26) = true := by simp; omega
              have d4 : decide (k < 26) = true := by simp; omega
              have d5 : (0 : Int) ≤ (k : Int) := by omega
              have d6 : (k : Int) < 26 := by omega
              by_cases hv : own k = ss s
              · have hat := bq_at hk hv
                have hcL : cntH (bq own s) k < L := by have := (List.getElem?_eq_some_iff.1 hat).1; rw [HL0.out] at this; exact this
                obtain ⟨g1, o1, c1, g2, o2, c2, he1, he2, q6⟩ := HL6.out (by omega)
                injection he1 with he1 _ he1'
                injection he2 with he2 _ he2'
                subst he1 he2 he1' he2'
                have hq6 := q6 _ _ hat
                have hcs' : cntH (bq own s) (k + 1) = cntH (bq own s) k + 1 := by
                  rw [hcs]
                  have : (bq own s k).isSome = true := by unfold bq; rw [if_pos hv]; rfl
                  rw [this]
                  rfl
                rw [hv] at hcell
                unfold ss at hcell
                clear hcs hat hv q6
                generalize cntH (bq own s) k = c at *
                have a1 : wr.cell? ⟨g1, o1 + c, none⟩ = some (.string (kk k)) := Still.cell HST2.out hq6.1
                have a2 : wr.cell? ⟨g2, o2 + c * 2, none⟩ = some (.int .i64 k) := Still.cell HST2.out hq6.2.1
                have a1' := fun ob => Still.cell ((Still.refl wr).alloc ob) a1
                have a2' := fun ob => Still.cell ((Still.refl wr).alloc ob) a2
                have b1 : decide ((L : Int) ≤ (c : Int)) = false := by simp; omega
                have b2 : decide (L ≤ c) = false := by simp; omega
                have b3 : (0 : Int) ≤ (c : Int) := by omega
                have b4 : (c : Int) < (L : Int) := by omega
                have f1 : IntKind.i64.wrap (97 + (k : Int)) = 97 + k := IntWalk.i64_in _ (by omega)
                have f2 : IntKind.u8.wrap (97 + (k : Int)) = 97 + k := IntWalk.u8_in _ (by omega)
                have q1 : (convert 52 9 (.slice (some ⟨wr.heap.size, 0, none⟩) 1 1)).run Tryz.prog (wr.alloc (.cells #[.int .u8 (97 + (k : Int))] 5)).drew = .ok (.string (kk k)) (wr.alloc (.cells #[.int .u8 (97 + (k : Int))] 5)).drew :=
                  conv_at ((cellsAt_new wr [.int .u8 (97 + (k : Int))] 5).drew.cell 0)
                have HD := Lib.hid (fun A => show Still wr (wr.alloc A).drew from ((Still.refl wr).alloc A).drew)
                have HC' := Lib.hid hcs'
                clear hcs' hq6
                go_wp2_with fail
                go_region
                all_goals
                  go_wp2_with fail
                  go_roundw
                  case rel => exact ⟨k + 1, by rw [HC'.out]; go_num, by go_num, by omega, HST2.out.trans (HD.out _)⟩
                  case measure => simp [intOf]; omega
              · have hcs' : cntH (bq own s) (k + 1) = cntH (bq own s) k := by
                  rw [hcs]
                  have : (bq own s k).isSome = false := by unfold bq; rw [if_neg hv]; rfl
                  rw [this]
                  rfl
                have hne := fun e => hv (key_ext e)
                have n1 : ((own k).toList == (strOfNums [48 + (s : Int)]).toList) = false := by
                  rw [beq_eq_false_iff_ne]
                  exact hne
                clear hcs hv hne
                generalize cntH (bq own s) k = c at *
                have HC' := Lib.hid hcs'
                clear hcs'
                generalize own k = ov at *
                generalize strOfNums [48 + (s : Int)] = sv at *
                go_wp2_with fail
                go_roundw
                case rel => exact ⟨k + 1, by rw [HC'.out], by go_num, by omega, HST2.out⟩
                case measure => simp [intOf]; omega
            · have hk2 : k = 26 := by omega
              subst hk2
              have hbb := HLL.out.2
              rw [← HLL.out.1] at HTT ⊢
              have HS7 := Lib.hid (HS6.out.trans hst2)
              have u9 : IntKind.i64.wrap ((tn : Int) + (L : Int)) = (tn : Int) + L := IntWalk.i64_in _ (by omega)
              clear hst2
              go_wp2_with fail
              go_roundw
              case rel => exact ⟨s + 1, by rw [HTT.out]; go_num, by go_num, by omega, HS7.out⟩
              case measure => simp [intOf]; omega
        · have hs44 : s = 4 := by omega
          subst hs44
          rw [← HNN.out.1]
          have HLn := Lib.hid (ox_len (HL5.out.later hst).ix HN2.out)
          have F := Lib.hid (show BTrue W (.returned (.bool true)) wr from ⟨rfl, (HL5.out.later hst).still⟩)
          clear hst
          go_wp2_with fail
          refine HLn.out.mono ?_
          rintro e w7 ⟨rfl, rfl⟩
          go_wp2_with fail
          go_ret
          exact F.out

set_option maxRecDepth 100000 in
set_option maxHeartbeats 1000000 in
theorem both_long (a0 : Option Addr) (m0 c0 : Nat) (W : World) (hm : HasM W) (h : ¬ (m0 ≤ 40)) :
    Calls Tryz.prog 4 #[.slice a0 m0 c0] W (BTrue W) := by
  have HBG := Lib.hid (begun_any W hm)
  clear hm
  go_enter Tryz.func4, Tryz.ntmps4
  go_wp2_with fail
  refine HBG.out.mono ?_
  rintro e w1 ⟨rfl, hb1⟩
  have F := Lib.hid (show BTrue W (.returned (.bool true)) w1 from ⟨rfl, hb1⟩)
  clear hb1
  go_wp2_with fail
  all_goals
    go_ret
    exact F.out
end Go.Proofs.YtedfijmaeoednaaGreatDoor

namespace Go.Proofs.YtedfijmaeoednaaGreatDoor
open Go.RowKit Go.Wh Go.ChangeShapes Go.WideShapes Go.ChangeAt Go.Proofs.YtedfijmaeoednaaGreatDoor.Tw

set_option maxRecDepth 100000 in
theorem indexBoth_lifted (os : Os) (started : os.Started) (H : Type) (enc : TypeId × Value → H) :
    ReturnsInHanded {} Tryz.checked os 4 .any (fun w args => (Rows.indexBothSpec.pre enc Tryz.prog Tryz.f4 Rows.indexBothRow.domain false w args ∧ laidMetH Tryz.prog twVars w) ∧ sizedMet enc Tryz.prog Tryz.f4 (OpenSpec.ofChange Rows.indexBothSpec) false w args)
      (Rows.indexBothSpec.post enc Tryz.prog Tryz.f4 false true false false) := by
  refine twin_wrap (C := Tryz.checked) (X := fun w _ => laidMetH Tryz.prog twVars w) twOwn started (by kernel_rfl) Tryz.func4
    (ChangeSpec.witness_shaped (enc := enc) (C := Tryz.checked) (os := os) (X := fun w _ => laidMetH Tryz.prog twVars w) false (World.laidAll Tryz.prog os twVars) #[.slice none 0 0] 8 (World.laidAll_os _ _ _)
      (World.shaped_of_ZipB (by kernel_rfl) (by kernel_rfl)) (by kernel_rfl) (by kernel_rfl) (by kernel_rfl)
      (by rw [MakeChecks.laidMetH_plain _ _ _ (by kernel_rfl)]; exact laidMet_laidAll _ (by kernel_rfl) (by kernel_rfl))) ?_
  intro W base args ds gs before hval0 hW hsh
  have hval : ∀ (j : Nat) t v, Tryz.f4.params[j]? = some t → args[j]? = some v → Value.okWide Tryz.prog W .any base t v := hval0
  have hW' := hW
  obtain ⟨p, q, hA0, hV, rfl, _, _⟩ := hW
  have hA : DataW.TrodAll enc Tryz.prog W 0 (fun _ => true) true Tryz.f4.params.toList args.toList ds p := hA0
  rw [Tryz.params4] at hA hval
  obtain ⟨v0, d0, rfl, rfl, h0⟩ := trodAll_one hA
  obtain ⟨a0, m0, c0, z0, rfl, w0, l0⟩ := Go.Wh.open_row Tryz.underlying49 Tryz.underlying51 (by kernel_rfl) (hval 0 49 v0 rfl rfl) h0
  have walk : Calls Tryz.prog 4 #[.slice a0 m0 c0] W (BTrue W) := by
    by_cases hl : m0 ≤ 40
    · exact both_walk a0 m0 c0 z0 W (hasM_of_shaped hsh) w0 hl
    · exact both_long a0 m0 c0 W (hasM_of_shaped hsh) hl
  refine walk.mono fun e W' ⟨he, bel⟩ => ?_
  subst he
  exact ⟨_, rfl, law_post twLaid (t := 4) rfl Tryz.underlying4 rfl (by intro t ht; rw [show Tryz.f4.params.toList = [49] from rfl] at ht; simp at ht; rcases ht with rfl; exact ⟨by kernel_rfl, of_decide_eq_true (by kernel_rfl)⟩) hW' rfl bel.below⟩

theorem indexBoth_row : Rows.IndexBothSaid :=
  OpenClaim.holds_of_wide 4 Tryz.f4 rfl rfl rfl rfl rfl rfl rfl ⟨rfl, rfl, rfl, rfl, rfl⟩ rfl rfl rfl rfl rfl (by kernel_rfl) Tryz.func4 (by kernel_rfl)
    (of_decide_eq_true (by kernel_rfl)) (by unfold Func.isWrapper; first | (rw [if_pos (by decide +kernel)]; kernel_rfl) | (rw [if_neg (by decide +kernel)]; exact ⟨rfl, rfl⟩))
    (fun os started H enc _ => indexBoth_lifted os started H enc)

theorem indexBoth_holds : Rows.IndexBothCardSaid :=
  Claim7.holds_tied_plain_at .later [] [.data, .pinned] true Rows.indexBothCard.stood.harness false indexBoth_row (fun _ h => by cases h) (by kernel_rfl) (fun _ h => by cases h) indexBoth_row_tie rfl ⟨rfl, rfl⟩ (by kernel_rfl) rfl
    (fun f fn hf hfn => by
      obtain rfl : f = 4 := Option.some.inj ((show Tryz.prog.funcNamed "whim/whimlaw25.IndexBoth" = some 4 by kernel_rfl).symm.trans hf) |>.symm
      obtain rfl : fn = Tryz.f4 := (Option.some.inj (Tryz.func4.symm.trans hfn)).symm
      exact ⟨by kernel_rfl, fun j t ht => by
        rw [Tryz.params4] at ht
        have hm : t ∈ [49] := by simpa using Array.mem_of_getElem? ht
        have hall : ([49].all fun u => !Tryz.prog.wantsStandIn u) = true := by kernel_rfl
        exact (show Tryz.prog.wantsStandIn t = false by simpa using List.all_eq_true.1 hall t hm)⟩)
    (by kernel_rfl)
#print axioms indexBoth_holds
end Go.Proofs.YtedfijmaeoednaaGreatDoor
