/- TreeOnce: the walk. Conditions: a row of bytes. -/
import Derived.Test.YtjmkfppnimengaaTreeGet
import Derived.Test.YtjmkfppnimengaaRow
import Derived.Deep.DeepCutAuto
import Derived.Deep.QuietTactic
import Derived.BigQuiet
namespace Go.Proofs.Ytjmkfppnimengaa
open Go.RowKit Go.Wh

def upd1 (own : Nat → Int) (k : Nat) (v : Int) : Nat → Int := fun j => if j = k then v else own j
theorem upd1_same (own : Nat → Int) (k : Nat) (v : Int) : upd1 own k v k = v := if_pos rfl
theorem upd1_other (own : Nat → Int) {k j : Nat} (v : Int) (h : j ≠ k) : upd1 own k v j = own j := if_neg h
def oCells (own : Nat → Int) : List Value := (List.range 16).map fun k => .int .i64 (own k)
theorem oCells_get (own : Nat → Int) (k : Nat) (hk : k < 16) : (oCells own)[k]? = some (.int .i64 (own k)) := by
  unfold oCells
  simp [hk]
theorem oCells_set (own : Nat → Int) (k : Nat) (v : Int) : (oCells own).set k (.int .i64 v) = oCells (upd1 own k v) := by
  unfold oCells
  apply List.ext_getElem?
  intro i
  rw [List.getElem?_set]
  by_cases hik : k = i
  · subst hik
    by_cases hk : k < 16
    · simp [hk, upd1_same]
    · simp [hk]
  · rw [if_neg hik]
    by_cases hi : i < 16
    · simp [hi, upd1_other own v (Ne.symm hik)]
    · simp [hi]

/-- The name of one of sixteen. -/
def kk (k : Nat) : Key := strOfNums [97 + (k : Int)]
theorem kk_inj {a b : Nat} (ha : a < 16) (hb : b < 16) (h : kk a = kk b) : a = b := by
  have h1 : (kk a).data.toList = (kk b).data.toList := by rw [h]
  unfold kk at h1
  rw [strOfNums_data, strOfNums_data] at h1
  simp only [List.map_cons, List.map_nil, List.cons.injEq, and_true] at h1
  have h2 := congrArg UInt8.toNat h1
  rw [UInt8.toNat_ofNat', UInt8.toNat_ofNat'] at h2
  omega

structure OnceS (W : World) (t ob : Nat) (own : Nat → Int) (l : Nd 0) (w : World) : Prop where
  tree : Own W (fun b => b = ob) w t l
  still : Still W w
  lo : W.heap.size ≤ ob
  cells : cellsAt w ob (oCells own)
  pos : ∀ k, k < 16 → 0 ≤ own k
  get : ∀ k, k < 16 → getL l (kk k) = if 0 < own k then some (own k, 0) else none

section
variable {W w w' : World} {t ob : Nat} {own : Nat → Int} {l : Nd 0}
theorem OnceS.later (h : OnceS W t ob own l w) (hs : Still w w') : OnceS W t ob own l w' :=
  ⟨h.tree.still hs, h.still.trans hs, h.lo, h.cells.only hs fun e => e, h.pos, h.get⟩
theorem OnceS.cell (h : OnceS W t ob own l w) {k : Nat} (hk : k < 16) : w.cell? ⟨ob, k, none⟩ = some (.int .i64 (own k)) := (h.cells.cell k).trans (oCells_get own k hk)
theorem OnceS.has (h : OnceS W t ob own l w) {k : Nat} (hk : k < 16) : hasK (keys l) (kk k) = decide (0 < own k) := by
  rw [hasK_get, h.get k hk]
  by_cases h0 : 0 < own k
  · rw [if_pos h0]; simp [h0]
  · rw [if_neg h0]; simp [h0]
/-- Put, and noted. -/
theorem OnceS.put (h : OnceS W t ob own l w) {k : Nat} (hk : k < 16) {p : Int} (hp : 0 < p) (ht : Own W (fun b => b = ob) w' t (insL l (kk k) (p, 0))) (hm : Mine W (fun b => b = ob) w w') :
    OnceS W t ob (upd1 own k p) (insL l (kk k) (p, 0)) (w'.setCell ⟨ob, k, none⟩ (.int .i64 p)) := by
  refine ⟨ht.only (setCell_only w' ⟨ob, k, none⟩ _) fun b e => e, Only.setCell (hm.still h.still) (.inr h.lo) _, h.lo, ?_, fun j hj => ?_, fun j hj => ?_⟩
  · rw [← oCells_set]
    exact (h.cells.only hm fun e => e.2 rfl).setCell k _
  · by_cases e : j = k
    · subst e; rw [upd1_same]; omega
    · rw [upd1_other _ _ e]; exact h.pos j hj
  · rw [getL_ins h.tree.ks]
    by_cases e : j = k
    · subst e
      rw [if_pos rfl, upd1_same, if_pos hp]
    · rw [if_neg fun e' => e (kk_inj hj hk e'), upd1_other _ _ e]
      exact h.get j hj
theorem OnceS.cut (h : OnceS W t ob own l w) {k : Nat} (hk : k < 16) (ht : Own W (fun b => b = ob) w' t (delL l (kk k))) (hm : Mine W (fun b => b = ob) w w') :
    OnceS W t ob (upd1 own k 0) (delL l (kk k)) (w'.setCell ⟨ob, k, none⟩ (.int .i64 0)) := by
  refine ⟨ht.only (setCell_only w' ⟨ob, k, none⟩ _) fun b e => e, Only.setCell (hm.still h.still) (.inr h.lo) _, h.lo, ?_, fun j hj => ?_, fun j hj => ?_⟩
  · rw [← oCells_set]
    exact (h.cells.only hm fun e => e.2 rfl).setCell k _
  · by_cases e : j = k
    · subst e; rw [upd1_same]; omega
    · rw [upd1_other _ _ e]; exact h.pos j hj
  · rw [getL_del h.tree.ks]
    by_cases e : j = k
    · subst e
      rw [if_pos rfl, upd1_same, if_neg (by omega)]
    · rw [if_neg fun e' => e (kk_inj hj hk e'), upd1_other _ _ e]
      exact h.get j hj
theorem OnceS.start {w1 w2 : World} (hs : Still W w1) (ho : Own W (fun _ => False) w2 t []) (hs2 : Still w1 w2) (tt : TypeId) : OnceS W t w2.heap.size (fun _ => 0) [] (w2.alloc (.cells (oCells fun _ => 0).toArray tt)) := by
  have h12 := hs.trans hs2
  have h3 : Still w2 (w2.alloc (.cells (oCells fun _ => 0).toArray tt)) := (Still.refl _).alloc _
  obtain ⟨F, h1, h2, -⟩ := ho
  refine ⟨⟨F, h1.still h3, fun b hb => ⟨(h2 b hb).1, fun e => ?_⟩, fun b e => ?_⟩, h12.trans h3, h12.size, cellsAt_new w2 _ tt, fun _ _ => Int.le_refl _, fun k _ => ?_⟩
  · have := h1.lt b hb
    omega
  · subst e
    simp
  · rw [if_neg (by omega)]
    rfl
end

/-- Behind a put or a cut. -/
def OnceC (W : World) (t ob n : Nat) (nv : Value) (w : World) : Prop := ∃ own l, nv = .int .i64 ((l : Nd 0).length : Nat) ∧ OnceS W t ob own l w ∧ l.length ≤ n

set_option maxHeartbeats 1000000 in
set_option maxRecDepth 100000 in
theorem once_walk (a0 : Option Addr) (m cap : Nat) (zs : List Int) (W : World) (hr : IsRow .u8 W a0 m zs) (hm : m ≤ 100) :
    Calls Try.prog 6 #[.slice a0 m cap] W (BTrue W) := by
  have HR := Lib.hid hr
  have HM := Lib.hid hm
  have HBG := Lib.hid (begun_any W)
  have a0m : decide ((100 : Int) < (m : Int)) = false := by simp; omega
  have a0m' : decide (100 < m) = false := by simp; omega
  clear hr hm
  go_enter Try.func6, Try.ntmps6
  go_wp2_with fail
  refine HBG.out.mono ?_
  rintro e w1 ⟨rfl, hs1⟩
  have HN := Lib.hid (own_new (w0 := W) (A := fun _ => False) hs1 (fun _ e => e.elim))
  have HS1 := Lib.hid hs1
  clear hs1 HBG
  go_wp2_with fail
  refine HN.out.mono ?_
  rintro e w2 ⟨t, rfl, ho2, hs2⟩
  have HS := Lib.hid (OnceS.start HS1.out ho2 hs2)
  clear ho2 hs2 HN HS1
  unfold ptr
  go_wp2_with fail
  have hS := HS.out 50
  have HS' := Lib.hid (show OnceS W t w2.heap.size (fun _ => 0) [] (w2.alloc (.cells #[.int .i64 0, .int .i64 0, .int .i64 0, .int .i64 0, .int .i64 0, .int .i64 0, .int .i64 0, .int .i64 0, .int .i64 0, .int .i64 0, .int .i64 0, .int .i64 0, .int .i64 0, .int .i64 0, .int .i64 0, .int .i64 0] 50)) from hS)
  clear hS HS
  generalize (w2.alloc (.cells #[.int .i64 0, .int .i64 0, .int .i64 0, .int .i64 0, .int .i64 0, .int .i64 0, .int .i64 0, .int .i64 0, .int .i64 0, .int .i64 0, .int .i64 0, .int .i64 0, .int .i64 0, .int .i64 0, .int .i64 0, .int .i64 0] 50)) = w3 at HS' ⊢
  generalize w2.heap.size = ob at HS' ⊢
  go_loopw [5, 6] (fun nv iv wr => ∃ (i : Nat) (own : Nat → Int) (l : Nd 0), nv = .int .i64 (l.length : Nat) ∧ iv = .int .i64 i ∧ i ≤ m ∧ l.length ≤ i ∧ OnceS W t ob own l wr) (fun _ s _ => m - (intOf s).toNat)
  case atStart => exact ⟨0, fun _ => 0, [], rfl, rfl, Nat.zero_le _, Nat.le_refl _, HS'.out⟩
  case round =>
    clear HS'
    obtain ⟨i, own, l, rfl, rfl, hin, hl, hs⟩ := hrel
    have HL := Lib.hid (And.intro hs hl)
    clear hs hl
    by_cases hi : i < m
    · have a1 : decide ((i : Int) < (m : Int)) = true := by simp; omega
      have a2 : decide (i < m) = true := by simp; omega
      have a3 : (0 : Int) ≤ (i : Int) := by omega
      have a4 : (i : Int) < (m : Int) := by omega
      have u9 : IntKind.i64.wrap ((i : Int) + 1) = (i : Int) + 1 := IntWalk.i64_in _ (by have := HM.out; omega)
      obtain ⟨b, off, hab, hcW, hwf⟩ := isRow_later HR.out (Below.refl _ _) hi
      subst hab
      have hcell := Still.cell HL.out.1.still hcW
      have hwf' := byte_wf hwf
      obtain ⟨z, hz⟩ : ∃ z, zs.getD i 0 = z := ⟨_, rfl⟩
      rw [hz] at hcell hwf' hwf
      obtain ⟨z0, z1⟩ := hwf'
      have cv := conv1
      have hcell2 := fun o => Still.cell ((Still.refl wr).alloc o) hcell
      clear hcW hz
      go_upto_if 41 with fail
      have hs4 := HL.out.1.later ((Still.refl wr).alloc (.cells #[.int .u8 (97 + z % 16)] 5))
      generalize hw4 : wr.alloc (.cells #[.int .u8 (97 + z % 16)] 5) = w4 at hs4 ⊢
      obtain ⟨k, hk⟩ : ∃ k : Nat, z % 16 = (k : Int) := ⟨(z % 16).toNat, by omega⟩
      have hk16 : k < 16 := by omega
      have hname : strOfNums [97 + z % 16] = kk k := by rw [hk]; rfl
      have HS4 := Lib.hid (And.intro hs4 HL.out.2)
      rw [hname, hk]
      obtain ⟨q, hq⟩ : ∃ q : Bool, ((z / 16 % 4) == 0) = q := ⟨_, rfl⟩
      rw [hq]
      clear hq hname hk hw4 hcell2 hcell hs4 cv z0 z1 hwf HL
      go_cut [5] (fun nv wc => OnceC W t ob (i + 1) nv wc)
      case first =>
        have hc4 := HS4.out.1.cell hk16
        have hf4 := HS4.out.1.cells.free k
        have hp4 := HS4.out.1.pos k hk16
        have hh4 := HS4.out.1.has hk16
        have hl4 := HS4.out.2
        have hb4 : l.length ≤ 100 := by have := HM.out; omega
        have hd4 := delL_length' (l := l) (kk k)
        have hi4 := insL_length' (l := l) (kk k) ((i : Int) + 1, 0)
        rw [hh4] at hd4 hi4
        have HCU := Lib.hid (fun w' (hs : Still w4 w') => (own_cut (HS4.out.1.tree.still hs) (by omega) (HS4.out.1.still.trans hs) (kk k)).mono (fun e w'' (h : _ ∧ _ ∧ _) => show e = .returned (.bool (decide (0 < own k))) ∧ Hid (OnceS W t ob (upd1 own k 0) (delL l (kk k)) (w''.setCell ⟨ob, k, none⟩ (.int .i64 0))) ∧ w''.cell? ⟨ob, k, none⟩ = some (.int .i64 (own k)) ∧ w''.frozen? ⟨ob, k, none⟩ = false from
          ⟨by rw [← hh4]; exact h.1, Lib.hid ((HS4.out.1.later hs).cut hk16 h.2.1 h.2.2), (Only.cell h.2.2 (World.block_lt_of_cell? _ _ (Still.cell hs hc4)) fun e => e.2 rfl).trans (Still.cell hs hc4), ((HS4.out.1.later hs).cells.only h.2.2 fun e => e.2 rfl).free k⟩))
        have HPU := Lib.hid (fun w' (hs : Still w4 w') => (own_put (HS4.out.1.tree.still hs) (by omega) (HS4.out.1.still.trans hs) (kk k) ((i : Int) + 1, 0)).mono (fun e w'' (h : _ ∧ _ ∧ _) => show e = .returned (.bool !(decide (0 < own k))) ∧ Hid (OnceS W t ob (upd1 own k ((i : Int) + 1)) (insL l (kk k) ((i : Int) + 1, 0)) (w''.setCell ⟨ob, k, none⟩ (.int .i64 ((i : Int) + 1)))) ∧ w''.cell? ⟨ob, k, none⟩ = some (.int .i64 (own k)) ∧ w''.frozen? ⟨ob, k, none⟩ = false from
          ⟨by rw [← hh4]; exact h.1, Lib.hid ((HS4.out.1.later hs).put hk16 (by omega) h.2.1 h.2.2), (Only.cell h.2.2 (World.block_lt_of_cell? _ _ (Still.cell hs hc4)) fun e => e.2 rfl).trans (Still.cell hs hc4), ((HS4.out.1.later hs).cells.only h.2.2 fun e => e.2 rfl).free k⟩))
        have HST := Lib.hid (Still.refl w4)
        unfold ptr at HCU HPU
        unfold ridV at HPU
        dsimp only at HPU
        have e1 : (0 : Int) ≤ (k : Int) := by omega
        have e2 : (k : Int) < 16 := by omega
        obtain ⟨ov, hov⟩ : ∃ ov, own k = ov := ⟨_, rfl⟩
        rw [hov] at hc4 hp4 hd4 hi4 HCU HPU
        clear hov hh4
        by_cases h0 : ov = 0
        · subst h0
          simp only [Int.lt_irrefl, decide_false, Bool.not_false, Bool.false_eq_true, if_false, Nat.add_zero] at hd4 hi4 HCU HPU
          have HFC := Lib.hid (fun w' (h : OnceS W t ob (upd1 own k 0) (delL l (kk k)) w') => show OnceC W t ob (i + 1) (.int .i64 (l.length : Nat)) w' from ⟨_, _, by rw [hd4], h, by omega⟩)
          have HFP := Lib.hid (fun w' (h : OnceS W t ob (upd1 own k ((i : Int) + 1)) (insL l (kk k) ((i : Int) + 1, 0)) w') => show OnceC W t ob (i + 1) (.int .i64 ((l.length : Nat) + 1)) w' from ⟨_, _, by rw [hi4]; go_num, h, by omega⟩)
          generalize l.length = n at *
          have e3 : IntKind.i64.wrap ((n : Int) + 1) = (n : Int) + 1 := IntWalk.i64_in _ (by omega)
          clear hd4 hi4 hl4 hb4
          cases q with
          | true =>
            go_wp2_with fail
            go_region_held3 (fun w' => w'.cell? ⟨ob, k, none⟩ = some (.int .i64 0)) (first | assumption | go_keep) (first | (go_at_call 12; (with_reducible refine (HCU.out _ HST.out.drew).mono ?_); rintro e w5 ⟨rfl, HO5, c5, f5⟩))
            go_wp2_with fail
            go_meet
            case rel => exact HFC.out _ HO5
          | false =>
            go_wp2_with fail
            go_region_held3 (fun w' => w'.cell? ⟨ob, k, none⟩ = some (.int .i64 0)) (first | assumption | go_keep) (first | (go_at_call 14; (with_reducible refine (HPU.out _ HST.out.drew).mono ?_); rintro e w5 ⟨rfl, HO5, c5, f5⟩))
            go_wp2_with fail
            go_meet
            case rel => exact HFP.out _ HO5
        · have h1 : decide (0 < ov) = true := by simp; omega
          simp only [h1, Bool.not_true, if_true, Nat.add_zero] at hd4 hi4 HCU HPU
          have HFC := Lib.hid (fun w' (h : OnceS W t ob (upd1 own k 0) (delL l (kk k)) w') => show OnceC W t ob (i + 1) (.int .i64 ((l.length : Nat) - 1)) w' from ⟨_, _, by rw [show ((l.length : Nat) : Int) - 1 = (((delL l (kk k)).length : Nat) : Int) by omega], h, by omega⟩)
          have HFP := Lib.hid (fun w' (h : OnceS W t ob (upd1 own k ((i : Int) + 1)) (insL l (kk k) ((i : Int) + 1, 0)) w') => show OnceC W t ob (i + 1) (.int .i64 (l.length : Nat)) w' from ⟨_, _, by rw [hi4], h, by omega⟩)
          have hlp : 1 ≤ l.length := by omega
          have h2 : (ov == 0) = false := by rw [beq_eq_false_iff_ne]; omega
          generalize l.length = n at *
          have e3 : IntKind.i64.wrap ((n : Int) - 1) = (n : Int) - 1 := IntWalk.i64_in _ (by omega)
          clear hd4 hi4 hl4 hb4 h0
          cases q with
          | true =>
            go_wp2_with fail
            go_region_held3 (fun w' => w'.cell? ⟨ob, k, none⟩ = some (.int .i64 ov)) (first | assumption | go_keep) (first | (go_at_call 12; (with_reducible refine (HCU.out _ HST.out.drew).mono ?_); rintro e w5 ⟨rfl, HO5, c5, f5⟩))
            go_wp2_with fail
            go_meet
            case rel => exact HFC.out _ HO5
          | false =>
            go_wp2_with fail
            go_region_held3 (fun w' => w'.cell? ⟨ob, k, none⟩ = some (.int .i64 ov)) (first | assumption | go_keep) (first | (go_at_call 14; (with_reducible refine (HPU.out _ HST.out.drew).mono ?_); rintro e w5 ⟨rfl, HO5, c5, f5⟩))
            go_wp2_with fail
            go_meet
            case rel => exact HFP.out _ HO5
      case rest =>
        clear HS4
        obtain ⟨own, l, rfl, hs, hl⟩ := hcut
        have HS := Lib.hid hs
        have HL := Lib.hid hl
        have HLN := Lib.hid (own_len hs.tree)
        obtain ⟨n, hn⟩ : ∃ n, l.length = n := ⟨_, rfl⟩
        have HNN := Lib.hid hn
        rw [hn] at HLN
        rw [hn]
        unfold ptr at HLN
        clear hs hl hn
        go_wp2_with fail
        refine HLN.out.mono ?_
        rintro e w5 ⟨rfl, rfl⟩
        clear HLN
        go_wp2_with fail
        go_loopw [9] (fun jv wr => ∃ j : Nat, jv = .int .i64 j ∧ j ≤ 16 ∧ Still w5 wr) (fun jv _ => 16 - (intOf jv).toNat)
        case atStart => exact ⟨0, rfl, by omega, Still.refl _⟩
        case round =>
          obtain ⟨j, rfl, hj, hst⟩ := hrel
          by_cases hj16 : j < 16
          · have hcell := (HS.out.later hst).cell hj16
            have HG := Lib.hid (fun w' (hs : Still wr w') => own_get ((HS.out.later hst).tree.still hs) (kk j))
            have hget := HS.out.get j hj16
            unfold TGet at HG
            rw [hget] at HG
            have HST := Lib.hid hst
            have hpos := HS.out.pos j hj16
            obtain ⟨ov, hov⟩ : ∃ ov, own j = ov := ⟨_, rfl⟩
            rw [hov] at hcell HG hpos
            have hkb : ∀ w', Still wr w' → w'.cell? ⟨ob, j, none⟩ = some (.int .i64 ov) := fun w' h => Still.cell h hcell
            have HKB := Lib.hid hkb
            unfold kk at HG
            unfold ptr ridV at HG
            have d1 : decide ((j : Int) < 16) = true := by simp; omega
            have d2 : decide (j < 16) = true := by simp; omega
            have d3 : (0 : Int) ≤ (j : Int) := by omega
            have d4 : (j : Int) < 16 := by omega
            have cv := conv1
            clear hst hget hov hkb hcell
            by_cases h0 : 0 < ov
            · have e1 : decide (0 < ov) = true := by simp; omega
              rw [if_pos h0] at HG
              simp only [Option.getD_some, Option.isSome_some] at HG
              clear h0
              go_wp2_with fail
              refine (HG.out _ ((Still.refl _).alloc _)).mono ?_
              rintro e w6 ⟨rfl, hs6⟩
              have hs7 := ((Still.refl wr).alloc (.cells #[.int .u8 (97 + (j : Int))] 5)).trans hs6
              have hc7 := HKB.out _ (hs7.alloc (.cells #[.int .i64 ov, .int .i64 0] 35))
              have hv7 : (w6.alloc (.cells #[.int .i64 ov, .int .i64 0] 35)).cell? ⟨w6.heap.size, 0, none⟩ = some (.int .i64 ov) := (cellsAt_new w6 [.int .i64 ov, .int .i64 0] 35).cell 0
              have HS7 := Lib.hid (hs7.alloc (.cells #[.int .i64 ov, .int .i64 0] 35))
              clear hs6 hs7 cv HG
              go_wp2_with fail
              go_quiet (fail)
              go_wp2_with fail
              go_roundw
              case rel => exact ⟨j + 1, by go_num, by omega, (HST.out.trans HS7.out).drewN _⟩
              case measure => simp [intOf]; omega
            · have h1 : ov = 0 := by omega
              subst h1
              rw [if_neg h0] at HG
              simp only [Option.getD_none, Option.isSome_none] at HG
              clear h0
              go_wp2_with fail
              refine (HG.out _ ((Still.refl _).alloc _)).mono ?_
              rintro e w6 ⟨rfl, hs6⟩
              have hs7 := ((Still.refl wr).alloc (.cells #[.int .u8 (97 + (j : Int))] 5)).trans hs6
              have hc7 := HKB.out _ (hs7.alloc (.cells #[.int .i64 0, .int .i64 0] 35))
              have hv7 : (w6.alloc (.cells #[.int .i64 0, .int .i64 0] 35)).cell? ⟨w6.heap.size, 0, none⟩ = some (.int .i64 0) := (cellsAt_new w6 [.int .i64 0, .int .i64 0] 35).cell 0
              have HS7 := Lib.hid (hs7.alloc (.cells #[.int .i64 0, .int .i64 0] 35))
              clear hs6 hs7 cv HG
              go_wp2_with fail
              go_quiet (fail)
              go_wp2_with fail
              go_roundw
              case rel => exact ⟨j + 1, by go_num, by omega, (HST.out.trans HS7.out).drewN _⟩
              case measure => simp [intOf]; omega
          · have hge : j = 16 := by omega
            subst hge
            have HST := Lib.hid hst
            clear hst
            go_wp2_with fail
            rw [← HNN.out]
            go_roundw
            case rel => exact ⟨i + 1, own, l, rfl, by go_num, by omega, HL.out, HS.out.later HST.out⟩
            case measure => simp [intOf]; omega
    · have hge : i = m := by omega
      subst hge
      have a1 : decide ((i : Int) < (i : Int)) = false := by simp
      have F := Lib.hid (show BTrue W (.returned (.bool true)) wr from ⟨rfl, HL.out.1.still⟩)
      go_wp2_with fail
      go_ret
      exact F.out
end Go.Proofs.Ytjmkfppnimengaa
