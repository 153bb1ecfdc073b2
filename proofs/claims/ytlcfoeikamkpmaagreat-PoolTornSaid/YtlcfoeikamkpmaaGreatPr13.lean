/- A page's half as a tile. Conditions: the bytes lie in memory. A page's bytes as two tiles. Conditions: 104 bytes that lie in memory. A cache of places with a hand that goes round, of whatever values: plain. No program. No conditions. A trail is opened. Conditions: the disk lies in memory; at most a thousand tiles. A disk that is new; entries that are said by numbers. Conditions: none but those of the calls. A hand in memory: where a key's place is, where an empty one. Conditions: it lies in memory, at least one place, at most 64. A hand that goes round, in memory: where it comes to rest. Conditions: it lies in memory, at least one place, at most 64. A hand in memory: is all pinned; a copy. Conditions: it lies in memory, at least one place, at most 64. -/
import Derived.Test.YtlcfoeikamkpmaaGreatPr12
import Derived.Lib.Hide
import Derived.LoopTactic
import Derived.StillTailTactics
import Derived.Deep.MidRow
namespace Go.Proofs.YtlcfoeikamkpmaaGreat
open Go.RowKit Go.Wh Go.Maps

def hd4 (z : Int) (i : Nat) : List Int := (be4 z).take i ++ List.replicate (64 - i) 0
theorem hd4_len (z : Int) {i : Nat} (h : i ≤ 4) : (hd4 z i).length = 64 := by
 simp [hd4, be4]
 omega
theorem hd4_four (z : Int) (l : List Int) : (hd4 z 4).take 4 ++ l ++ (hd4 z 4).drop (4 + l.length) = oneB z l := by
 have e : hd4 z 4 = be4 z ++ List.replicate 60 0 := rfl
 have h4 : (be4 z).length = 4 := rfl
 rw [e, List.take_append_of_le_length (by rw [h4]; omega), List.take_of_length_le (by rw [h4]; omega), List.append_assoc]
 unfold oneB
 congr 1
 congr 1
 rw [show 4 + l.length = (be4 z).length + l.length by rw [h4], List.drop_length_add_append, List.drop_replicate]
set_option maxRecDepth 100000 in
theorem copy_cells {Q : Nat → Prop} {w : World} {b off m c' n c : Nat} {a : Option Addr} {l : List Int} {xs : List Value} (hb : cellsAt w b xs) (h : Sl w Q 1 (.slice a n c) n (bc l)) (hn0 : 0 < n) (hnm : n ≤ m) (hm : off + m ≤ xs.length) (hx : xs.length ≤ 100000) :
 (Builtin.copy_ #[22, 22] 3 #[.slice (some ⟨b, off, none⟩) m c', .slice a n c]).run Tryz.prog w = .ok (.int .i64 (n : Int)) (w.setCells b off (bc l)) ∧ Only (fun k => k = b) w (w.setCells b off (bc l)) ∧ VecAt (w.setCells b off (bc l)) 1 b 0 xs.length xs.length (xs.take off ++ bc l ++ xs.drop (off + n)) := by
 have hln : l.length = n := by have := h.1; rw [bc_length] at this; omega
 obtain ⟨g, o, cc, e, -, -, hcs⟩ := h.pos hn0
 injection e with e1 e2 e3
 subst e1 e3
 obtain ⟨tt, hb2⟩ := hb
 have hv := vecAt_block (size := 1) (n := xs.length) (cap := xs.length) hb2 (by simp) (by omega) (by simp only [maxLen]; omega)
 simp only [Nat.mul_one, List.take_length] at hv
 have hmn : Nat.min n m = n := Nat.min_eq_left hnm
 have h := run_copy_at (P := Tryz.prog) (size := 1) 22 22 3 5 Tryz.underlying22 (by kernel_rfl) hv off m c' ⟨g, o, none⟩ n c (bc l) (by rw [bc_length, hln, hmn]; omega) (by rw [hmn]; omega) (fun j u hj => by
  rw [Addr.add_lit]
  exact hcs j u hj) (bc_one _)
 rw [hmn, Nat.mul_one, Nat.mul_one, Nat.zero_add] at h
 exact ⟨h.1, Go.Wh.setCells_only _ _ _ _, h.2⟩
set_option maxHeartbeats 1000000 in
set_option maxRecDepth 100000 in
theorem one_any {Q : Nat → Prop} (w : World) (z : Int) (v : Value) (n : Nat) (l : List Int) (h : Sl w Q 1 v n (bc l)) (hn0 : 0 < n) (hn : n ≤ 60) (h0 : 0 ≤ z) (h1 : z ≤ 2147483647) :
 Calls Tryz.prog 100 #[.int .i64 z, v] w (FreshPost w 1 64 (bc (oneB z l))) := by
 have hln : l.length = n := by have := h.1; rw [bc_length] at this; omega
 obtain ⟨a, c, rfl⟩ := h.form
 have HH := Lib.hid (And.intro h (And.intro hn0 (And.intro hn (And.intro h0 (And.intro h1 hln)))))
 have hmk : ∀ w : World, (Instr.makeSlice 22 (.int .i64 64) (.int .i64 64)).run Tryz.prog w = .ok (.slice (some ⟨w.heap.size, 0, none⟩) 64 64) (w.alloc (.cells zeros64 5)) := make64
 clear h hn hln
 go_enter Tryz.func100, Tryz.ntmps100
 go_upto_region 2 with fail
 have hzc := cellsAt_new w (bc (List.replicate 64 0)) 5
 have hs1 : Still w (w.alloc (.cells zeros64 5)) := (Still.refl w).alloc _
 change cellsAt (w.alloc (.cells zeros64 5)) w.heap.size _ at hzc
 clear hmk
 generalize (w.alloc (.cells zeros64 5)) = w1 at *
 obtain ⟨b, hb⟩ : ∃ b, w.heap.size = b := ⟨_, rfl⟩
 rw [hb] at hzc
 rw [hb]
 have HST := Lib.hid (And.intro hs1 (show cellsAt w1 b (bc (hd4 z 0)) from hzc))
 have HB := Lib.hid hb
 clear hzc hs1 hb
 go_wp2_with fail
 go_loopw [8] (fun s wr => ∃ i : Nat, s = .int .i64 i ∧ i ≤ 4 ∧ Still w wr ∧ cellsAt wr b (bc (hd4 z i))) (fun s _ => 4 - (intOf s).toNat)
 case atStart => exact ⟨0, rfl, Nat.zero_le _, HST.out.1, HST.out.2⟩
 obtain ⟨i, rfl, hin, hs, hv⟩ := hrel
 by_cases hi : i < 4
 rotate_left
 · have d1 : decide ((i : Int) < 4) = false := decide_eq_false (by omega)
   have d2 : decide (i < 4) = false := decide_eq_false hi
   obtain ⟨q1, q2, q3, q4, q5, q6⟩ := HH.out
   have hv4 : cellsAt wr b (bc (hd4 z 4)) := by rw [show i = 4 by omega] at hv; exact hv
   have hl4 : (bc (hd4 z 4)).length = 64 := by rw [bc_length, hd4_len z (Nat.le_refl 4)]
   obtain ⟨k1, k2, k3⟩ := copy_cells (off := 4) (m := 60) (c' := 60) hv4 (q1.still hs) q2 q3 (by rw [hl4]; decide) (by rw [hl4]; omega)
   have F := Lib.hid (show FreshPost w 1 64 (bc (oneB z l)) (.returned (.slice (some ⟨b, 0, none⟩) 64 64)) (wr.setCells b 4 (bc l)) from by
    have k4 : Only (fun k => k = b) w (wr.setCells b 4 (bc l)) := (hs.mono fun _ e => e.elim).trans k2
    have hbl := hv4.lt
    have hsz := k2.size
    refine ⟨_, rfl, .inr ⟨_, _, _, rfl, ?_⟩, k4.below (Nat.le_refl _) fun i hi e => by have := HB.out; omega, fun g hg => ?_⟩
    · rw [hl4] at k3
      have e2 : (bc (hd4 z 4)).take 4 ++ bc l ++ (bc (hd4 z 4)).drop (4 + n) = bc (oneB z l) := by
       rw [← hd4_four z l, q6]
       unfold bc
       rw [List.map_append, List.map_append, List.map_take, List.map_drop]
      rw [e2] at k3
      exact k3
    · have e : b = g := Option.some.inj hg
      have := HB.out
      omega)
   have rs : ∀ w : World, (Instr.slice 22 (.slice (some ⟨b, 0, none⟩) 64 64) (some (.int .i64 4)) none none).run Tryz.prog w = .ok (.slice (some ⟨b, 4, none⟩) 60 60) w := fun w => by kernel_rfl
   clear k2 k3 hv hv4 hl4 q1 q2 q3 q4 q5 q6 hs hi hin
   go_wp2_with fail
   go_ret
   exact F.out
 have fr : wr.frozen? ⟨b, i, none⟩ = false := hv.free i
 obtain ⟨u0, s0⟩ : ∃ u, wr.cell? ⟨b, i, none⟩ = some u := ⟨_, (hv.cell i).trans (List.getElem?_eq_getElem (by rw [bc_length, hd4_len z hin]; omega))⟩
 have HN : ∀ x : Int, (be4 z)[i]? = some x → Hid (Still w (wr.setCell ⟨b, i, none⟩ (.int .u8 x)) ∧ cellsAt (wr.setCell ⟨b, i, none⟩ (.int .u8 x)) b (bc (hd4 z (i + 1)))) := fun x hx => by
  refine Lib.hid ⟨hs.setCell (p := ⟨b, i, none⟩) (.inr (by show w.heap.size ≤ b; have := HB.out; omega)) _, ?_⟩
  have := hv.setCell i (.int .u8 x)
  have e : (bc (hd4 z i)).set i (.int .u8 x) = bc (hd4 z (i + 1)) := by
   rcases (show i = 0 ∨ i = 1 ∨ i = 2 ∨ i = 3 from by omega) with rfl | rfl | rfl | rfl <;> (cases hx; rfl)
  rw [e] at this
  exact this
 clear hs hv
 have hz256 : z / 16777216 % 256 = z / 16777216 := by omega
 rcases (show i = 0 ∨ i = 1 ∨ i = 2 ∨ i = 3 from by omega) with rfl | rfl | rfl | rfl
 · have HN := HN (z / 16777216) (by rw [← hz256]; rfl)
   clear hz256
   go_wp2_with fail
   go_roundw
   case rel => exact ⟨1, by rfl, by omega, HN.out.1, HN.out.2⟩
   case measure => simp [intOf]
 · have HN := HN (z / 65536 % 256) rfl
   clear hz256
   go_wp2_with fail
   go_roundw
   case rel => exact ⟨2, by rfl, by omega, HN.out.1, HN.out.2⟩
   case measure => simp [intOf]
 · have HN := HN (z / 256 % 256) rfl
   clear hz256
   go_wp2_with fail
   go_roundw
   case rel => exact ⟨3, by rfl, by omega, HN.out.1, HN.out.2⟩
   case measure => simp [intOf]
 · have HN := HN (z % 256) rfl
   clear hz256
   go_wp2_with fail
   go_roundw
   case rel => exact ⟨4, by rfl, by omega, HN.out.1, HN.out.2⟩
   case measure => simp [intOf]
end Go.Proofs.YtlcfoeikamkpmaaGreat

namespace Go.Proofs.YtlcfoeikamkpmaaGreat
open Go.RowKit Go.Wh Go.Maps

def TwoPost (w : World) (a b : List Int) (e : Ending) (w' : World) : Prop :=
 ∃ va vb, e = .returned (.tuple #[va, vb, .int .i64 0]) ∧ Vec w' 1 va 64 (bc a) ∧ Vec w' 1 vb 64 (bc b) ∧ Still w w' ∧ (∀ g, va.ownBlock = some g → w.heap.size ≤ g ∧ g < w'.heap.size) ∧ (∀ g, vb.ownBlock = some g → w.heap.size ≤ g ∧ g < w'.heap.size)
def NoTwo (w : World) (e : Ending) (w' : World) : Prop := e = .returned (.tuple #[.slice none 0 0, .slice none 0 0, .int .i64 1]) ∧ Still w w'
def PutPost (w : World) (z : Int) (l : List Int) (e : Ending) (w' : World) : Prop := if lsnMay z = true then TwoPost w (oneB z (l.take 60)) (oneB z (l.drop 60)) e w' else NoTwo w e w'
set_option maxHeartbeats 1000000 in
set_option maxRecDepth 100000 in
theorem sput_any {Q : Nat → Prop} (w : World) (z : Int) (v : Value) (l : List Int) (h : Sl w Q 1 v 104 (bc l)) (hc : Cap 104 v) :
 Calls Tryz.prog 80 #[.int .i64 z, v] w (PutPost w z l) := by
 have hln : l.length = 104 := by have := h.1; rw [bc_length] at this; omega
 obtain ⟨a, c, rfl⟩ := h.form
 obtain ⟨pv, -, r1, -, -, hp⟩ := h.part (P := Tryz.prog) (size := 1) 22 Tryz.underlying22 (fun w => rfl) hc (Nat.zero_le 60) (show 60 ≤ 104 by omega)
 obtain ⟨qv, -, -, r2, -, hq⟩ := h.part (P := Tryz.prog) (size := 1) 22 Tryz.underlying22 (fun w => rfl) hc (show 60 ≤ 104 by omega) (Nat.le_refl 104)
 have r1 : ∀ w, (Instr.slice 22 (.slice a 104 c) none (some (.int .i64 60)) none).run Tryz.prog w = .ok pv w := r1 rfl
 have r2 : ∀ w, (Instr.slice 22 (.slice a 104 c) (some (.int .i64 60)) none none).run Tryz.prog w = .ok qv w := r2 rfl
 have hp' := hp w Q h
 have hq' := hq w Q h
 rw [show bc l = bc l from rfl, show (0 : Nat) * 1 = 0 from rfl, List.drop_zero] at hp'
 rw [List.take_of_length_le (by rw [List.length_drop, bc_length, hln]; decide)] at hq'
 have e1 : (bc l).take ((60 - 0) * 1) = bc (l.take 60) := by unfold bc; rw [List.map_take]
 have e2 : (bc l).drop (60 * 1) = bc (l.drop 60) := by unfold bc; rw [List.map_drop]
 rw [e1] at hp'
 rw [e2] at hq'
 clear hp hq e1 e2
 by_cases hm : lsnMay z = true
 rotate_left
 · have F := Lib.hid (show PutPost w z l (.returned (.tuple #[.slice none 0 0, .slice none 0 0, .int .i64 1])) w from by
    unfold PutPost
    rw [if_neg hm]
    exact ⟨rfl, Still.refl _⟩)
   unfold lsnMay at hm
   simp only [Bool.and_eq_true, decide_eq_true_eq] at hm
   clear h hc hln r1 r2 hp' hq'
   by_cases h0 : z < 0
   · have d1 : decide (z < 0) = true := decide_eq_true h0
     clear hm
     go_enter Tryz.func80, Tryz.ntmps80
     go_wp2_with fail
     go_ret3
     exact F.out
   · have d1 : decide (z < 0) = false := decide_eq_false h0
     have d2 : decide (2147483647 < z) = true := decide_eq_true (by omega)
     clear hm
     go_enter Tryz.func80, Tryz.ntmps80
     go_wp2_with fail
     go_ret3
     exact F.out
 have hm' := hm
 unfold lsnMay at hm'
 simp only [Bool.and_eq_true, decide_eq_true_eq] at hm'
 have hz0 := hm'.1
 have hz1 := hm'.2
 have d1 : decide (z < 0) = false := decide_eq_false (by omega)
 have d2 : decide (2147483647 < z) = false := decide_eq_false (by omega)
 have HP := Lib.hid (fun w' (hs : Still w w') => one_any w' z pv 60 (l.take 60) (hp'.still hs) (by omega) (by omega) hz0 hz1)
 have HQ := Lib.hid (fun w' (hs : Still w w') => one_any w' z qv 44 (l.drop 60) (hq'.still hs) (by omega) (by omega) hz0 hz1)
 obtain ⟨pa, pc, rfl⟩ := hp'.form
 obtain ⟨qa, qc, rfl⟩ := hq'.form
 have HM := Lib.hid hm
 clear h hc hln hp' hq' hm hm' hz0 hz1
 have m1 : min (104 : Int) 60 = 60 := by decide
 go_enter Tryz.func80, Tryz.ntmps80
 go_upto_region 4 with fail
 go_region_held3 (fun _ => True) (trivial) (first
  | (go_at_call 100; (with_reducible refine (HP.out _ (still_drew _)).mono ?_); rintro e w1 ⟨va, rfl, k1, k2, k3⟩; have K1 := Lib.hid (And.intro k1 (And.intro k2 k3)); clear k1 k2 k3)
  | (go_at_call 100; (with_reducible refine (HQ.out _ ((still_drew w).trans (Still.of K1.out.2.1))).mono ?_); rintro e w2 ⟨vb, rfl, k1, k2, k3⟩; have K2 := Lib.hid (And.intro k1 (And.intro k2 k3)); clear k1 k2 k3))
 have F := Lib.hid (show PutPost w z l (.returned (.tuple #[va, vb, .int .i64 0])) w2 from by
  unfold PutPost
  rw [if_pos HM.out]
  have s1 : Still w w1 := (still_drew w).trans (Still.of K1.out.2.1)
  have s2 : Still w1 w2 := Still.of K2.out.2.1
  have z1 := s1.size
  have z2 := s2.size
  exact ⟨va, vb, rfl, K1.out.1.belowAll K2.out.2.1, K2.out.1, s1.trans s2, fun g hg => by have := K1.out.2.2 g hg; have e : w.drew.heap.size = w.heap.size := rfl; omega, fun g hg => by have := K2.out.2.2 g hg; omega⟩)
 go_wp2_with fail
 go_ret3
 exact F.out
end Go.Proofs.YtlcfoeikamkpmaaGreat

namespace Go.Proofs.YtlcfoeikamkpmaaGreat

structure Pl (V : Type) where
 k : Int
 v : V
 has : Bool
 bit : Bool
structure Hd (V : Type) where
 l : List (Pl V)
 at_ : Nat
section
variable {V U : Type}
def fdI (p : Pl V → Bool) : List (Pl V) → Nat
 | [] => 0
 | x :: l => if p x = true then 0 else fdI p l + 1
def isK (k : Int) (x : Pl V) : Bool := x.has && x.k == k
def noH (x : Pl V) : Bool := !x.has
def Pl.with (x : Pl V) (v : V) : Pl V := { x with v := v, bit := true }
def Pl.off (x : Pl V) : Pl V := { x with bit := false }
def Pl.on (x : Pl V) : Pl V := { x with bit := true }
def Pl.swap (x : Pl V) (v : V) : Pl V := { x with v := v }
def modI (f : Pl V → Pl V) : Nat → List (Pl V) → List (Pl V)
 | _, [] => []
 | 0, x :: l => f x :: l
 | i + 1, x :: l => x :: modI f i l
theorem modI_length (f : Pl V → Pl V) : ∀ (i : Nat) (l : List (Pl V)), (modI f i l).length = l.length
 | _, [] => by simp [modI]
 | 0, x :: l => rfl
 | i + 1, x :: l => by simp [modI, modI_length f i l]
theorem modI_set (f : Pl V → Pl V) : ∀ (i : Nat) (l : List (Pl V)) (x : Pl V), l[i]? = some x → modI f i l = l.set i (f x)
 | _, [], _, h => by simp at h
 | 0, y :: l, x, h => by
  simp at h
  subst h
  rfl
 | i + 1, y :: l, x, h => by
  simp at h
  simp [modI, modI_set f i l x h]
theorem fdI_lt {p : Pl V → Bool} : ∀ {l : List (Pl V)}, fdI p l < l.length → ∃ x, l[fdI p l]? = some x ∧ p x = true
 | [], h => by simp [fdI] at h
 | x :: l, h => by
  unfold fdI at h ⊢
  split
  · rename_i hp
    exact ⟨x, rfl, hp⟩
  · rename_i hp
    rw [if_neg hp] at h
    simp only [List.length_cons] at h
    obtain ⟨y, hy, hq⟩ := fdI_lt (p := p) (l := l) (by omega)
    exact ⟨y, by simpa using hy, hq⟩
theorem fdI_no {p : Pl V → Bool} : ∀ {l : List (Pl V)} {i : Nat} {x : Pl V}, i < fdI p l → l[i]? = some x → p x = false
 | [], i, x, h, _ => by simp [fdI] at h
 | y :: l, i, x, h, hx => by
  unfold fdI at h
  split at h
  · omega
  · rename_i hp
    cases i with
    | zero =>
     simp at hx
     subst hx
     simpa using hp
    | succ i => exact fdI_no (l := l) (i := i) (by omega) (by simpa using hx)
theorem fdI_at {p : Pl V → Bool} : ∀ {l : List (Pl V)} {i : Nat} {x : Pl V}, (∀ (j : Nat) (y : Pl V), j < i → l[j]? = some y → p y = false) → l[i]? = some x → p x = true → fdI p l = i
 | [], i, x, _, hx, _ => by simp at hx
 | y :: l, 0, x, _, hx, hp => by
  simp at hx
  subst hx
  unfold fdI
  rw [if_pos hp]
 | y :: l, i + 1, x, h, hx, hp => by
  unfold fdI
  have h0 := h 0 y (by omega) rfl
  rw [if_neg (by rw [h0]; decide), fdI_at (l := l) (i := i) (x := x) (fun j z hj hz => h (j + 1) z (by omega) (by simpa using hz)) (by simpa using hx) hp]
theorem fdI_end {p : Pl V → Bool} : ∀ {l : List (Pl V)}, (∀ (j : Nat) (y : Pl V), l[j]? = some y → p y = false) → fdI p l = l.length
 | [], _ => rfl
 | y :: l, h => by
  unfold fdI
  have h0 := h 0 y rfl
  rw [if_neg (by rw [h0]; decide), fdI_end (l := l) fun j z hz => h (j + 1) z (by simpa using hz)]
  rfl
def Hd.turn : Nat → Hd V → Nat × Hd V
 | 0, h => (h.at_, h)
 | n + 1, h => match h.l[h.at_]? with
  | none => (h.at_, h)
  | some x => if x.bit = false then (h.at_, ⟨h.l, (h.at_ + 1) % h.l.length⟩) else Hd.turn n ⟨modI Pl.off h.at_ h.l, (h.at_ + 1) % h.l.length⟩
def Hd.put (h : Hd V) (void : V) (k : Int) (v : V) : (Int × V × Bool) × Hd V :=
 if fdI (isK k) h.l < h.l.length then ((0, void, false), ⟨modI (·.with v) (fdI (isK k) h.l) h.l, h.at_⟩)
 else if fdI noH h.l < h.l.length then ((0, void, false), ⟨h.l.set (fdI noH h.l) ⟨k, v, true, true⟩, h.at_⟩)
 else match (h.turn (2 * h.l.length)).2.l[(h.turn (2 * h.l.length)).1]? with
  | none => ((0, void, false), h)
  | some x => ((x.k, x.v, true), ⟨(h.turn (2 * h.l.length)).2.l.set (h.turn (2 * h.l.length)).1 ⟨k, v, true, true⟩, (h.turn (2 * h.l.length)).2.at_⟩)
def Hd.look (h : Hd V) (k : Int) : Option V := (h.l[fdI (isK k) h.l]?).map (·.v)
def Hd.touch (h : Hd V) (k : Int) : Hd V := ⟨modI Pl.on (fdI (isK k) h.l) h.l, h.at_⟩
def Hd.swap (h : Hd V) (k : Int) (v : V) : Hd V := ⟨modI (·.swap v) (fdI (isK k) h.l) h.l, h.at_⟩
def Hd.keys (h : Hd V) : List Int := (h.l.filter (·.has)).map (·.k)
def mkHd (void : V) (n : Nat) : Hd V := ⟨List.replicate n ⟨0, void, false, false⟩, 0⟩

def PlR (R : V → U → Prop) (x : Pl V) (y : Pl U) : Prop := x.k = y.k ∧ x.has = y.has ∧ x.bit = y.bit ∧ R x.v y.v
inductive LR (R : V → U → Prop) : List (Pl V) → List (Pl U) → Prop
 | nil : LR R [] []
 | cons {x : Pl V} {y : Pl U} {l : List (Pl V)} {m : List (Pl U)} : PlR R x y → LR R l m → LR R (x :: l) (y :: m)
def HdR (R : V → U → Prop) (h : Hd V) (g : Hd U) : Prop := LR R h.l g.l ∧ h.at_ = g.at_
variable {R : V → U → Prop}
theorem LR.length {l : List (Pl V)} {m : List (Pl U)} (h : LR R l m) : l.length = m.length := by
 induction h with
 | nil => rfl
 | cons _ _ ih => simp [ih]
theorem LR.mono {R' : V → U → Prop} (hr : ∀ a b, R a b → R' a b) {l : List (Pl V)} {m : List (Pl U)} (h : LR R l m) : LR R' l m := by
 induction h with
 | nil => exact .nil
 | cons hx _ ih => exact .cons ⟨hx.1, hx.2.1, hx.2.2.1, hr _ _ hx.2.2.2⟩ ih
theorem LR.at {l : List (Pl V)} {m : List (Pl U)} (h : LR R l m) : ∀ (i : Nat) (x : Pl V), l[i]? = some x → ∃ y, m[i]? = some y ∧ PlR R x y := by
 induction h with
 | nil => intro i x hx; simp at hx
 | cons hx _ ih =>
  intro i z hz
  cases i with
  | zero =>
   simp at hz
   subst hz
   exact ⟨_, rfl, hx⟩
  | succ i =>
   obtain ⟨y, hy, hr⟩ := ih i z (by simpa using hz)
   exact ⟨y, by simpa using hy, hr⟩
theorem LR.none {l : List (Pl V)} {m : List (Pl U)} (h : LR R l m) {i : Nat} (hi : l[i]? = none) : m[i]? = none := by
 rw [List.getElem?_eq_none_iff] at hi ⊢
 rw [← h.length]
 exact hi
theorem LR.fd {p : Pl V → Bool} {q : Pl U → Bool} (hpq : ∀ x y, PlR R x y → p x = q y) {l : List (Pl V)} {m : List (Pl U)} (h : LR R l m) : fdI p l = fdI q m := by
 induction h with
 | nil => rfl
 | cons hx _ ih =>
  unfold fdI
  rw [hpq _ _ hx, ih]
theorem isK_R {k : Int} (x : Pl V) (y : Pl U) (h : PlR R x y) : isK k x = isK k y := by
 unfold isK
 rw [h.1, h.2.1]
theorem noH_R (x : Pl V) (y : Pl U) (h : PlR R x y) : noH x = noH y := by
 unfold noH
 rw [h.2.1]
theorem LR.mod {f : Pl V → Pl V} {g : Pl U → Pl U} (hfg : ∀ x y, PlR R x y → PlR R (f x) (g y)) {l : List (Pl V)} {m : List (Pl U)} (h : LR R l m) : ∀ i, LR R (modI f i l) (modI g i m) := by
 induction h with
 | nil => intro i; simp only [modI]; exact .nil
 | cons hx ht ih =>
  intro i
  cases i with
  | zero => exact .cons (hfg _ _ hx) ht
  | succ i => exact .cons hx (ih i)
theorem LR.set {x : Pl V} {y : Pl U} (hxy : PlR R x y) {l : List (Pl V)} {m : List (Pl U)} (h : LR R l m) : ∀ i, LR R (l.set i x) (m.set i y) := by
 induction h with
 | nil => intro i; exact .nil
 | cons hx ht ih =>
  intro i
  cases i with
  | zero => exact .cons hxy ht
  | succ i => exact .cons hx (ih i)
theorem HdR.turn : ∀ (n : Nat) {h : Hd V} {g : Hd U}, HdR R h g → (h.turn n).1 = (g.turn n).1 ∧ HdR R (h.turn n).2 (g.turn n).2
 | 0, h, g, hr => ⟨hr.2, hr⟩
 | n + 1, h, g, hr => by
  have hl := hr.1.length
  have ha := hr.2
  unfold Hd.turn
  cases hx : h.l[h.at_]? with
  | none =>
   have := hr.1.none hx
   rw [ha] at this
   rw [this]
   exact ⟨ha, hr⟩
  | some x =>
   obtain ⟨y, hy, hxy⟩ := hr.1.at _ x hx
   rw [ha] at hy
   rw [hy]
   simp only
   rw [hxy.2.2.1]
   split
   · exact ⟨ha, hr.1, by simp only; rw [ha, hl]⟩
   · refine HdR.turn n ⟨?_, by simp only; rw [ha, hl]⟩
     rw [ha]
     exact hr.1.mod (f := Pl.off) (g := Pl.off) (fun x y h => ⟨h.1, h.2.1, rfl, h.2.2.2⟩) _
theorem HdR.put {h : Hd V} {g : Hd U} {a : V} {b : U} {k : Int} {v : V} {u : U} (hr : HdR R h g) (hab : R a b) (hvu : R v u) :
 (h.put a k v).1.1 = (g.put b k u).1.1 ∧ (h.put a k v).1.2.2 = (g.put b k u).1.2.2 ∧ R (h.put a k v).1.2.1 (g.put b k u).1.2.1 ∧ HdR R (h.put a k v).2 (g.put b k u).2 := by
 have hl := hr.1.length
 have e1 : fdI (isK k) h.l = fdI (isK k) g.l := hr.1.fd isK_R
 have e2 : fdI noH h.l = fdI noH g.l := hr.1.fd noH_R
 unfold Hd.put
 rw [e1, e2, hl]
 split
 · exact ⟨rfl, rfl, hab, hr.1.mod (f := (·.with v)) (g := (·.with u)) (fun x y h => ⟨h.1, h.2.1, rfl, hvu⟩) _, hr.2⟩
 · split
   · exact ⟨rfl, rfl, hab, hr.1.set (show PlR R ⟨k, v, true, true⟩ ⟨k, u, true, true⟩ from ⟨rfl, rfl, rfl, hvu⟩) _, hr.2⟩
   · have ht := hr.turn (2 * g.l.length)
     rw [ht.1]
     cases hx : (h.turn (2 * g.l.length)).2.l[(g.turn (2 * g.l.length)).1]? with
     | none =>
      rw [ht.2.1.none hx]
      exact ⟨rfl, rfl, hab, hr⟩
     | some x =>
      obtain ⟨y, hy, hxy⟩ := ht.2.1.at _ x hx
      rw [hy]
      exact ⟨hxy.1, rfl, hxy.2.2.2, ht.2.1.set (show PlR R ⟨k, v, true, true⟩ ⟨k, u, true, true⟩ from ⟨rfl, rfl, rfl, hvu⟩) _, ht.2.2⟩
theorem HdR.look {h : Hd V} {g : Hd U} {k : Int} (hr : HdR R h g) : (h.look k = none ∧ g.look k = none) ∨ ∃ v u, h.look k = some v ∧ g.look k = some u ∧ R v u := by
 have e1 : fdI (isK k) h.l = fdI (isK k) g.l := hr.1.fd isK_R
 unfold Hd.look
 rw [← e1]
 cases hx : h.l[fdI (isK k) h.l]? with
 | none =>
  rw [hr.1.none hx]
  exact .inl ⟨rfl, rfl⟩
 | some x =>
  obtain ⟨y, hy, hxy⟩ := hr.1.at _ x hx
  rw [hy]
  exact .inr ⟨_, _, rfl, rfl, hxy.2.2.2⟩
theorem HdR.touch {h : Hd V} {g : Hd U} {k : Int} (hr : HdR R h g) : HdR R (h.touch k) (g.touch k) := by
 have e1 : fdI (isK k) h.l = fdI (isK k) g.l := hr.1.fd isK_R
 unfold Hd.touch
 rw [e1]
 exact ⟨hr.1.mod (f := Pl.on) (g := Pl.on) (fun x y h => ⟨h.1, h.2.1, rfl, h.2.2.2⟩) _, hr.2⟩
theorem HdR.swap {h : Hd V} {g : Hd U} {k : Int} {v : V} {u : U} (hr : HdR R h g) (hvu : R v u) : HdR R (h.swap k v) (g.swap k u) := by
 have e1 : fdI (isK k) h.l = fdI (isK k) g.l := hr.1.fd isK_R
 unfold Hd.swap
 rw [e1]
 exact ⟨hr.1.mod (f := (·.swap v)) (g := (·.swap u)) (fun x y h => ⟨h.1, h.2.1, h.2.2.1, hvu⟩) _, hr.2⟩
theorem HdR.keys {h : Hd V} {g : Hd U} (hr : HdR R h g) : h.keys = g.keys := by
 obtain ⟨hl, -⟩ := hr
 unfold Hd.keys
 generalize h.l = l at hl
 generalize g.l = m at hl
 induction hl with
 | nil => rfl
 | cons hx _ ih =>
  simp only [List.filter_cons, hx.2.1]
  split
  · simp only [List.map_cons, hx.1, ih]
  · exact ih
theorem LR.replicate {a : V} {b : U} (hab : R a b) : ∀ n, LR R (List.replicate n ⟨0, a, false, false⟩) (List.replicate n ⟨0, b, false, false⟩)
 | 0 => .nil
 | n + 1 => by
  rw [List.replicate_succ, List.replicate_succ]
  exact .cons ⟨rfl, rfl, rfl, hab⟩ (LR.replicate hab n)
end
end Go.Proofs.YtlcfoeikamkpmaaGreat

namespace Go.Proofs.YtlcfoeikamkpmaaGreat
open Go.RowKit Go.Wh Go.Maps

set_option maxHeartbeats 400000 in
theorem clone_big (v : Value) (n : Nat) (xs : List Value) (w : World) (h : Reads w 1 v n xs) (h1c : ∀ u ∈ xs, u.oneCell' = true) (hn : n ≤ 100000) :
 Calls Tryz.prog 36 #[v] w (FreshPost w 1 n xs) := by
 rcases id h with ⟨hl, ⟨rfl, rfl⟩ | ⟨a, c, rfl, hc⟩⟩
 · have hnil : xs = [] := by simpa using hl
   have F := Lib.hid (show FreshPost w 1 0 xs (.returned (.slice none 0 0)) w from ⟨_, rfl, by rw [hnil]; exact Vec.nil _ _, Below.refl _ _, fun g hg => by cases hg⟩)
   clear h hl hnil
   have hnn := fun W : World => Lib.run_eql_slice_nil (P := Tryz.prog) W 22 5 none 0 0 0 0 Tryz.underlying22
   go_enter Tryz.func36, Tryz.ntmps36
   go_wp2_with fail
   go_ret
   exact F.out
 · obtain ⟨i0, hi, hz0, hz1, hz2⟩ := info_parts info_b
   have H := Lib.hid h
   have HC := Lib.hid h1c
   clear h hl hc h1c
   have hnn := fun W : World => Lib.run_eql_slice_nil (P := Tryz.prog) W 22 5 (some a) n c 0 0 Tryz.underlying22
   go_enter Tryz.func36, Tryz.ntmps36
   have H1 := Lib.hid (H.out.belowAll ((Below.refl _ _).alloc (Nat.le_refl _) (Obj.cells #[] 5)))
   go_wp2_with (at_builtin; refine wpList_append_vec rfl _ _ 22 rfl 5 i0 _ 1 1 Tryz.underlying22 hi hz0 hz1 hz2 rfl (by decide) _ 0 [] rfl (Vec.none_ _ _ _ _) _ n xs rfl H1.out HC.out (by simp only [maxLen]; omega) (by omega) ?_; intro v' w' hv' ho' hb')
   have F := Lib.hid (show FreshPost w 1 n xs (.returned v') w' from by
    have hbel := (Below.refl w.heap.size w).alloc (Nat.le_refl _) (Obj.cells #[] 5)
    refine ⟨v', rfl, by simpa using hv', hbel.trans (ho'.below (by simp) (fun i hi e => ?_)), fun g hg => ?_⟩
    · have e2 : w.heap.size = i := Option.some.inj e
      omega
    · rcases hb' with e | ⟨g', e, h1, h2⟩
      · have e2 : w.heap.size = g := Option.some.inj (e.symm.trans hg)
        have h3 := ho'.size
        simp at h3
        omega
      · rw [e] at hg
        injection hg with hg
        simp at h1
        omega)
   clear hv' ho' hb' H H1 HC
   go_wp2_with fail
   go_ret
   exact F.out

theorem tlx_new (w : World) (d at_ n : Nat) (tt : TypeId) (hn : n ≤ 2000) : TlX (fun b => b = w.heap.size) w.heap.size d at_ n [] 0 (w.alloc (.cells #[.pointer (some ⟨d, 0, none⟩), .int .i64 at_, .int .i64 n, .slice none 0 0, .int .i64 0, .int .i64 0] tt)) :=
 ⟨⟨.slice none 0 0, ⟨cellsAt_new w [.pointer (some ⟨d, 0, none⟩), .int .i64 at_, .int .i64 n, .slice none 0 0, .int .i64 0, .int .i64 0] tt, Vec.nil _ _, (fun z hz => by cases hz), (fun g e => by cases e)⟩, rfl, (fun g e => by cases e)⟩, fun g hg => by simp; omega, by simp [streamB], hn, (fun e he => by cases he), (fun e he => by cases he), Nat.le_refl _⟩
end Go.Proofs.YtlcfoeikamkpmaaGreat

namespace Go.Proofs.YtlcfoeikamkpmaaGreat
open Go.RowKit Go.Wh Go.Maps

def zeroT (n : Nat) : List (List Int) := List.replicate n (List.replicate 64 0)
theorem tls_zero {m a n : Nat} (h : a + n ≤ m) : tls (zeroT m) a n = zeroT n := by
 unfold tls zeroT
 rw [List.drop_replicate, List.take_replicate]
 congr 1
 omega
theorem readB_zero (n : Nat) : readB (zeroT n) = [] := by
 cases n with
 | zero => rfl
 | succ n =>
  show readB (List.replicate 64 0 :: zeroT n) = []
  rw [readB_cons]
  rfl
theorem tileB_nil (i : Nat) : tileB [] i = List.replicate 64 0 := by
 unfold tileB partB
 simp
def nE (k t : Int) : PE := ⟨k, t, 0, 0, 0, 0, 0, 0, 0, 0, [], [], [], [], [], []⟩
theorem nE_may {k t : Int} (h : 1 ≤ k ∧ k ≤ 10) (ht : 0 ≤ t ∧ t < 256) : (nE k t).may = true := by
 unfold PE.may nE
 have p1 : (256 : Int) ^ 1 = 256 := rfl
 simp only [Bool.and_eq_true, fitsB_cons, decide_eq_true_eq, p1]
 exact ⟨⟨⟨⟨⟨⟨⟨⟨⟨⟨⟨⟨h.1, h.2⟩, ⟨ht, by decide⟩⟩, by decide⟩, by decide⟩, by decide⟩, by decide⟩, rfl⟩, rfl⟩, rfl⟩, rfl⟩, rfl⟩, rfl⟩
theorem nE_len (k t : Int) : (frameB (nE k t)).length = 25 := by
 rw [frameB_length, encB_short _ rfl rfl rfl rfl]
 rfl
theorem nE_is (w : World) (P : Nat → Prop) (k t : Int) : EIs w P (nE k t) (.slice none 0 0) (.slice none 0 0) (.slice none 0 0) (.slice none 0 0) (.slice none 0 0) (.slice none 0 0) := EIs.none _ _ _ _ _ _ _ _ _ _
section
variable {A B Q : Nat → Prop} {w : World} {t d at_ n st : Nat} {es : List PE} {T : List (List Int)} {e : PE} {ov nv mv lv dv pv : Value}
theorem ap_ok (h : TlX B t d at_ n es st w) (he : EIs w Q e ov nv mv lv dv pv) (hm : e.may = true) (hr : (streamB es).length + (frameB e).length ≤ n * 63) {N : Int} (hN : ((es.length + 1 : Nat) : Int) = N) :
 Calls Tryz.prog 24 #[.pointer (some ⟨t, 0, none⟩), .agg (eV e ov nv mv lv dv pv)] w (fun en w' => en = .returned (.tuple #[.int .i64 N, .int .i64 0]) ∧ TlX (Newer B w w') t d at_ n (es ++ [e]) st w' ∧ Only B w w') := by
 refine (append_any B w t d at_ n es st e ov nv mv lv dv pv h he).mono fun en w' hp => ?_
 obtain ⟨es', a, k, rfl, h1, h2, h3⟩ := hp
 rcases h3 with ⟨h, _⟩ | ⟨_, h, _⟩ | ⟨_, _, rfl, rfl, rfl⟩
 · rw [hm] at h; cases h
 · omega
 · exact ⟨by rw [hN], h1, h2⟩
theorem stable_x (h : TlX B t d at_ n es st w) {N : Int} (hN : (st : Int) = N) : Calls Tryz.prog 25 #[.pointer (some ⟨t, 0, none⟩)] w (SamePost w (.int .i64 N)) := by
 subst hN
 obtain ⟨sv, h1, -, -⟩ := h.tl
 exact stable_any w t d at_ n (streamB es) sv es.length st h1
end
end Go.Proofs.YtlcfoeikamkpmaaGreat

namespace Go.Proofs.YtlcfoeikamkpmaaGreat
open Go.RowKit Go.Wh Go.Maps

def plC (x : Pl (List Value)) : List Value := .int .i64 x.k :: (x.v ++ [.bool x.has, .bool x.bit, .int .i64 0])
def rowsC (l : List (Pl (List Value))) : List Value := (l.map plC).flatten
def Fits (x : Pl (List Value)) : Prop := x.v.length = 7 ∧ ∀ u ∈ x.v, u.oneCell' = true
structure HdAt (w : World) (hb g o n cap : Nat) (H : Hd (List Value)) : Prop where
 cells : cellsAt w hb [.slice (some ⟨g, o, none⟩) n cap, .int .i64 (H.at_ : Nat)]
 row : VecAt w 11 g o n cap (rowsC H.l)
 len : H.l.length = n
 fits : ∀ x ∈ H.l, Fits x
 pos : 0 < n
 n64 : n ≤ 64
 lt : H.at_ < n
 ne : hb ≠ g
theorem plC_length {x : Pl (List Value)} (h : Fits x) : (plC x).length = 11 := by
 unfold plC
 rw [List.length_cons, List.length_append, h.1]
 rfl
theorem plC_one {x : Pl (List Value)} (h : Fits x) : ∀ u ∈ plC x, u.oneCell' = true := by
 intro u hu
 unfold plC at hu
 rcases List.mem_cons.1 hu with rfl | hu
 · rfl
 · rcases List.mem_append.1 hu with hu | hu
   · exact h.2 u hu
   · simp only [List.mem_cons, List.not_mem_nil, or_false] at hu
     rcases hu with rfl | rfl | rfl <;> rfl
theorem plC_at {x : Pl (List Value)} (h : Fits x) : (plC x)[0]? = some (.int .i64 x.k) ∧ (plC x)[8]? = some (.bool x.has) ∧ (plC x)[9]? = some (.bool x.bit) ∧ (plC x)[10]? = some (.int .i64 0) := by
 obtain ⟨k, v, a, b⟩ := x
 obtain ⟨h7, -⟩ := h
 match v, h7 with
 | [v0, v1, v2, v3, v4, v5, v6], _ => exact ⟨rfl, rfl, rfl, rfl⟩
theorem plC_v {x : Pl (List Value)} (h : Fits x) {j : Nat} (hj : j < 7) : (plC x)[1 + j]? = x.v[j]? := by
 unfold plC
 rw [Nat.add_comm, List.getElem?_cons_succ, List.getElem?_append_left (by rw [h.1]; exact hj)]
theorem rows_get {sz : Nat} : ∀ (vs : List (List Value)) (k j : Nat) (c : List Value), (∀ v ∈ vs, v.length = sz) → vs[k]? = some c → j < sz → vs.flatten[k * sz + j]? = c[j]?
 | [], _, _, _, _, h, _ => by simp at h
 | v :: vs, 0, j, c, hs, h, hj => by
  simp at h
  subst h
  rw [List.flatten_cons, Nat.zero_mul, Nat.zero_add, List.getElem?_append_left (by rw [hs v (by simp)]; exact hj)]
 | v :: vs, k + 1, j, c, hs, h, hj => by
  rw [List.flatten_cons, List.getElem?_append_right (by rw [hs v (by simp), Nat.add_mul]; omega), hs v (by simp)]
  have e : (k + 1) * sz + j - sz = k * sz + j := by rw [Nat.add_mul]; omega
  rw [e]
  exact rows_get vs k j c (fun u hu => hs u (by simp [hu])) (by simpa using h) hj
section
variable {w w' : World} {hb g o n cap : Nat} {H : Hd (List Value)}
theorem HdAt.only {X : Nat → Prop} (h : HdAt w hb g o n cap H) (ho : Only X w w') (h1 : ¬ X hb) (h2 : ¬ X g) : HdAt w' hb g o n cap H :=
 ⟨h.cells.only ho h1, h.row.block (ho.block g (h.row.lt (by have := h.pos; have := h.row.le; omega)) h2), h.len, h.fits, h.pos, h.n64, h.lt, h.ne⟩
theorem HdAt.still (h : HdAt w hb g o n cap H) (hs : Still w w') : HdAt w' hb g o n cap H := h.only hs (fun e => e) fun e => e
theorem HdAt.place (h : HdAt w hb g o n cap H) {i : Nat} {x : Pl (List Value)} (hx : H.l[i]? = some x) {j : Nat} (hj : j < 11) : w.cell? ⟨g, o + (i * 11 + j), none⟩ = (plC x)[j]? := by
 have hi := (List.getElem?_eq_some_iff.1 hx).1
 rw [h.len] at hi
 have hij : i * 11 + j < n * 11 := by omega
 rw [h.row.cell _ hij]
 unfold rowsC
 exact rows_get (sz := 11) _ i j (plC x) (fun v hv => by
  obtain ⟨y, hy, rfl⟩ := List.mem_map.1 hv
  exact plC_length (h.fits y hy)) (by rw [List.getElem?_map, hx]; rfl) hj
theorem HdAt.tests (h : HdAt w hb g o n cap H) {i : Nat} {x : Pl (List Value)} (hx : H.l[i]? = some x) :
 w.cell? ⟨g, o + i * 11, none⟩ = some (.int .i64 x.k) ∧ w.cell? ⟨g, o + i * 11 + 8, none⟩ = some (.bool x.has) ∧ w.cell? ⟨g, o + i * 11 + 9, none⟩ = some (.bool x.bit) ∧ w.cell? ⟨g, o + i * 11 + 10, none⟩ = some (.int .i64 0) := by
 have hf := h.fits x (List.mem_of_getElem? hx)
 obtain ⟨p0, p8, p9, p10⟩ := plC_at hf
 refine ⟨?_, ?_, ?_, ?_⟩
 · rw [← p0]; exact h.place hx (j := 0) (by omega)
 · rw [Nat.add_assoc, ← p8]; exact h.place hx (j := 8) (by omega)
 · rw [Nat.add_assoc, ← p9]; exact h.place hx (j := 9) (by omega)
 · rw [Nat.add_assoc, ← p10]; exact h.place hx (j := 10) (by omega)
def plP (g o n i : Nat) : Value := if i < n then .pointer (some ⟨g, o + i * 11, none⟩) else .pointer none
set_option maxHeartbeats 1000000 in
set_option maxRecDepth 100000 in
theorem hfind_any (h : HdAt w hb g o n cap H) (k : Int) : Calls Tryz.prog 75 #[.pointer (some ⟨hb, 0, none⟩), .int .i64 k] w (SamePost w (plP g o n (fdI (isK k) H.l))) := by
 have HH := Lib.hid h
 have c0 : w.cell? ⟨hb, 0, none⟩ = some (.slice (some ⟨g, o, none⟩) n cap) := h.cells.cell 0
 have HN := Lib.hid (And.intro h.len (And.intro h.pos h.n64))
 clear h
 go_enter Tryz.func75, Tryz.ntmps75
 go_wp2_with fail
 go_loopw [12] (fun s wr => ∃ i : Nat, s = .int .i64 i ∧ i ≤ n ∧ w = wr ∧ ∀ (j : Nat) (y : Pl (List Value)), j < i → H.l[j]? = some y → isK k y = false) (fun s _ => n - (intOf s).toNat)
 case atStart => exact ⟨0, rfl, Nat.zero_le _, rfl, fun j y hj => by omega⟩
 obtain ⟨i, rfl, hin, rfl, hno⟩ := hrel
 have HNO := Lib.hid hno
 clear hno
 by_cases hi : i < n
 rotate_left
 · have d1 : decide ((i : Int) < (n : Int)) = false := decide_eq_false (by omega)
   have d2 : decide (i < n) = false := decide_eq_false hi
   have F := Lib.hid (show SamePost w (plP g o n (fdI (isK k) H.l)) (.returned (.pointer none)) w from by
    have e : fdI (isK k) H.l = H.l.length := fdI_end fun j y hj => HNO.out j y (by have := (List.getElem?_eq_some_iff.1 hj).1; have := HN.out.1; omega) hj
    unfold plP
    rw [e, HN.out.1, if_neg (by omega)]
    exact ⟨rfl, rfl⟩)
   clear hi hin
   go_wp2_with fail
   go_ret
   exact F.out
 have d1 : decide ((i : Int) < (n : Int)) = true := decide_eq_true (by omega)
 have d2 : decide (i < n) = true := decide_eq_true hi
 have i0 : (0 : Int) ≤ (i : Int) := by omega
 have i1 : (i : Int) < (n : Int) := by omega
 have u9 : IntKind.i64.wrap ((i : Int) + 1) = (i : Int) + 1 := IntWalk.i64_in _ (by have := HN.out; omega)
 obtain ⟨x, hx⟩ : ∃ x, H.l[i]? = some x := ⟨_, List.getElem?_eq_getElem (by have := HN.out; omega)⟩
 obtain ⟨p0, p8, -, -⟩ := HH.out.tests hx
 have HX := Lib.hid hx
 have HI := Lib.hid hi
 obtain ⟨a, ha⟩ : ∃ a, x.has = a := ⟨_, rfl⟩
 obtain ⟨b, hb'⟩ : ∃ b, (x.k == k) = b := ⟨_, rfl⟩
 have HAB := Lib.hid (show isK k x = (a && b) from by unfold isK; rw [ha, hb'])
 rw [ha] at p8
 have hb2 : decide (x.k = k) = b := by rw [← hb']; rfl
 clear hx hi hin ha
 by_cases hab : (a && b) = true
 · have F := Lib.hid (show SamePost w (plP g o n (fdI (isK k) H.l)) (.returned (.pointer (some ⟨g, o + i * 11, none⟩))) w from by
    have e : fdI (isK k) H.l = i := fdI_at HNO.out HX.out (by rw [HAB.out, hab])
    unfold plP
    rw [e, if_pos HI.out]
    exact ⟨rfl, rfl⟩)
   obtain ⟨rfl, rfl⟩ : a = true ∧ b = true := by simpa using hab
   clear hab
   go_wp2_with fail
   go_ret
   exact F.out
 · have HN2 := Lib.hid (show ∀ (j : Nat) (y : Pl (List Value)), j < i + 1 → H.l[j]? = some y → isK k y = false from fun j y hj hy => by
    by_cases e : j = i
    · subst e
      rw [HX.out] at hy
      cases hy
      rw [HAB.out]
      simpa using hab
    · exact HNO.out j y (by omega) hy)
   cases a with
   | false =>
    clear hab hb2 hb'
    go_wp2_with fail
    go_roundw
    case rel => exact ⟨i + 1, by go_num, by have := HI.out; omega, (by first | trivial | rfl), HN2.out⟩
    case measure => first | (simp [intOf]; done) | (simp [intOf]; have := HI.out; omega)
   | true =>
    obtain rfl : b = false := by simpa using hab
    clear hab
    go_wp2_with fail
    go_roundw
    case rel => exact ⟨i + 1, by go_num, by have := HI.out; omega, (by first | trivial | rfl), HN2.out⟩
    case measure => first | (simp [intOf]; done) | (simp [intOf]; have := HI.out; omega)
set_option maxHeartbeats 1000000 in
set_option maxRecDepth 100000 in
theorem hfree_any (h : HdAt w hb g o n cap H) : Calls Tryz.prog 76 #[.pointer (some ⟨hb, 0, none⟩)] w (SamePost w (plP g o n (fdI noH H.l))) := by
 have HH := Lib.hid h
 have c0 : w.cell? ⟨hb, 0, none⟩ = some (.slice (some ⟨g, o, none⟩) n cap) := h.cells.cell 0
 have HN := Lib.hid (And.intro h.len (And.intro h.pos h.n64))
 clear h
 go_enter Tryz.func76, Tryz.ntmps76
 go_wp2_with fail
 go_loopw [9] (fun s wr => ∃ i : Nat, s = .int .i64 i ∧ i ≤ n ∧ w = wr ∧ ∀ (j : Nat) (y : Pl (List Value)), j < i → H.l[j]? = some y → noH y = false) (fun s _ => n - (intOf s).toNat)
 case atStart => exact ⟨0, rfl, Nat.zero_le _, rfl, fun j y hj => by omega⟩
 obtain ⟨i, rfl, hin, rfl, hno⟩ := hrel
 have HNO := Lib.hid hno
 clear hno
 by_cases hi : i < n
 rotate_left
 · have d1 : decide ((i : Int) < (n : Int)) = false := decide_eq_false (by omega)
   have d2 : decide (i < n) = false := decide_eq_false hi
   have F := Lib.hid (show SamePost w (plP g o n (fdI noH H.l)) (.returned (.pointer none)) w from by
    have e : fdI noH H.l = H.l.length := fdI_end fun j y hj => HNO.out j y (by have := (List.getElem?_eq_some_iff.1 hj).1; have := HN.out.1; omega) hj
    unfold plP
    rw [e, HN.out.1, if_neg (by omega)]
    exact ⟨rfl, rfl⟩)
   clear hi hin
   go_wp2_with fail
   go_ret
   exact F.out
 have d1 : decide ((i : Int) < (n : Int)) = true := decide_eq_true (by omega)
 have d2 : decide (i < n) = true := decide_eq_true hi
 have i0 : (0 : Int) ≤ (i : Int) := by omega
 have i1 : (i : Int) < (n : Int) := by omega
 have u9 : IntKind.i64.wrap ((i : Int) + 1) = (i : Int) + 1 := IntWalk.i64_in _ (by have := HN.out; omega)
 obtain ⟨x, hx⟩ : ∃ x, H.l[i]? = some x := ⟨_, List.getElem?_eq_getElem (by have := HN.out; omega)⟩
 obtain ⟨p0, p8, -, -⟩ := HH.out.tests hx
 have HX := Lib.hid hx
 have HI := Lib.hid hi
 obtain ⟨a, ha⟩ : ∃ a, x.has = a := ⟨_, rfl⟩
 have HAB := Lib.hid (show noH x = !a from by unfold noH; rw [ha])
 rw [ha] at p8
 clear hx hi hin ha p0
 cases a with
 | false =>
  have F := Lib.hid (show SamePost w (plP g o n (fdI noH H.l)) (.returned (.pointer (some ⟨g, o + i * 11, none⟩))) w from by
   have e : fdI noH H.l = i := fdI_at HNO.out HX.out (by rw [HAB.out]; rfl)
   unfold plP
   rw [e, if_pos HI.out]
   exact ⟨rfl, rfl⟩)
  go_wp2_with fail
  go_ret
  exact F.out
 | true =>
  have HN2 := Lib.hid (show ∀ (j : Nat) (y : Pl (List Value)), j < i + 1 → H.l[j]? = some y → noH y = false from fun j y hj hy => by
   by_cases e : j = i
   · subst e
     rw [HX.out] at hy
     cases hy
     rw [HAB.out]
     rfl
   · exact HNO.out j y (by omega) hy)
  go_wp2_with fail
  go_roundw
  case rel => exact ⟨i + 1, by go_num, by have := HI.out; omega, (by first | trivial | rfl), HN2.out⟩
  case measure => first | (simp [intOf]; done) | (simp [intOf]; have := HI.out; omega)
end
end Go.Proofs.YtlcfoeikamkpmaaGreat

namespace Go.Proofs.YtlcfoeikamkpmaaGreat
open Go.RowKit Go.Wh Go.Maps

def bitsN (l : List (Pl (List Value))) : Nat := (l.filter (·.bit)).length
theorem bitsN_le (l : List (Pl (List Value))) : bitsN l ≤ l.length := List.length_filter_le _ _
theorem bitsN_off : ∀ (i : Nat) (l : List (Pl (List Value))) (x : Pl (List Value)), l[i]? = some x → x.bit = true → bitsN (modI Pl.off i l) + 1 = bitsN l
 | _, [], _, h, _ => by simp at h
 | 0, y :: l, x, h, hb => by
  simp at h
  subst h
  unfold modI bitsN
  simp [Pl.off, hb]
 | i + 1, y :: l, x, h, hb => by
  have ih := bitsN_off i l x (by simpa using h) hb
  unfold bitsN at ih ⊢
  unfold modI
  simp only [List.filter_cons]
  split
  · simp only [List.length_cons]
    omega
  · exact ih
theorem rowsC_cons (y : Pl (List Value)) (l : List (Pl (List Value))) : rowsC (y :: l) = plC y ++ rowsC l := by simp [rowsC]
theorem rows_set (f : Pl (List Value) → Pl (List Value)) (j : Nat) (u : Value) (hj : j < 11) : ∀ (i : Nat) (l : List (Pl (List Value))) (x : Pl (List Value)), (∀ y ∈ l, Fits y) → l[i]? = some x → plC (f x) = (plC x).set j u → rowsC (modI f i l) = (rowsC l).set (i * 11 + j) u
 | _, [], _, _, h, _ => by simp at h
 | 0, y :: l, x, hf, h, hs => by
  simp at h
  subst h
  show rowsC (f y :: l) = _
  rw [rowsC_cons, rowsC_cons, hs, Nat.zero_mul, Nat.zero_add, List.set_append_left _ _ (by rw [plC_length (hf y (by simp))]; exact hj)]
 | i + 1, y :: l, x, hf, h, hs => by
  have ih := rows_set f j u hj i l x (fun z hz => hf z (by simp [hz])) (by simpa using h) hs
  have hl := plC_length (hf y (by simp))
  show rowsC (y :: modI f i l) = _
  rw [rowsC_cons, rowsC_cons, ih, List.set_append_right _ _ (by rw [hl, Nat.add_mul]; omega), hl]
  congr 2
  rw [Nat.add_mul]
  omega
theorem plC_bit (x : Pl (List Value)) (b : Bool) (h : Fits x) : plC { x with bit := b } = (plC x).set 9 (.bool b) := by
 obtain ⟨k, v, a, c⟩ := x
 obtain ⟨h7, -⟩ := h
 match v, h7 with
 | [v0, v1, v2, v3, v4, v5, v6], _ => rfl
section
variable {w w' : World} {hb g o n cap : Nat} {H : Hd (List Value)}
theorem HdAt.atSet (h : HdAt w hb g o n cap H) {a : Nat} (ha : a < n) : HdAt (w.setCell ⟨hb, 1, none⟩ (.int .i64 (a : Nat))) hb g o n cap ⟨H.l, a⟩ :=
 ⟨h.cells.setCell 1 _, h.row.block ((setCell_only w ⟨hb, 1, none⟩ _).block g (h.row.lt (by have := h.pos; have := h.row.le; omega)) (fun e => h.ne (show g = hb from e).symm)), h.len, h.fits, h.pos, h.n64, ha, h.ne⟩
theorem fits_mod {f : Pl (List Value) → Pl (List Value)} (hf : ∀ x, Fits x → Fits (f x)) : ∀ (i : Nat) (l : List (Pl (List Value))), (∀ x ∈ l, Fits x) → ∀ x ∈ modI f i l, Fits x
 | _, [], _ => by simp [modI]
 | 0, y :: l, h => by
  intro x hx
  rcases List.mem_cons.1 hx with rfl | hx
  · exact hf _ (h y (by simp))
  · exact h x (by simp [hx])
 | i + 1, y :: l, h => by
  intro x hx
  rcases List.mem_cons.1 hx with rfl | hx
  · exact h _ (by simp)
  · exact fits_mod hf i l (fun z hz => h z (by simp [hz])) x hx
theorem HdAt.bitSet (h : HdAt w hb g o n cap H) {i : Nat} {x : Pl (List Value)} (hx : H.l[i]? = some x) (b : Bool) {f : Pl (List Value) → Pl (List Value)} (hf : ∀ y, f y = { y with bit := b }) : HdAt (w.setCell ⟨g, o + (i * 11 + 9), none⟩ (.bool b)) hb g o n cap ⟨modI f i H.l, H.at_⟩ := by
 have hi := (List.getElem?_eq_some_iff.1 hx).1
 rw [h.len] at hi
 refine ⟨h.cells.setOther h.ne _, ?_, by rw [modI_length]; exact h.len, fits_mod (fun y hy => by rw [hf]; exact hy) i _ h.fits, h.pos, h.n64, h.lt, h.ne⟩
 have hr := h.row.set (i * 11 + 9) (by omega) (.bool b)
 rw [← rows_set f 9 (.bool b) (by omega) i H.l x h.fits hx (by rw [hf]; exact plC_bit x b (h.fits x (List.mem_of_getElem? hx)))] at hr
 exact hr
theorem turn_no {m : Nat} {x : Pl (List Value)} (hx : H.l[H.at_]? = some x) (hb : x.bit = false) : H.turn (m + 1) = (H.at_, ⟨H.l, (H.at_ + 1) % H.l.length⟩) := by
 unfold Hd.turn
 rw [hx]
 simp only
 rw [if_pos hb]
theorem turn_yes {m : Nat} {x : Pl (List Value)} (hx : H.l[H.at_]? = some x) (hb : x.bit = true) : H.turn (m + 1) = Hd.turn m ⟨modI Pl.off H.at_ H.l, (H.at_ + 1) % H.l.length⟩ := by
 conv => lhs; unfold Hd.turn
 rw [hx]
 simp only
 rw [if_neg (by rw [hb]; decide)]
def TuPost (w : World) (hb g o n cap : Nat) (R : Nat × Hd (List Value)) (e : Ending) (w' : World) : Prop := e = .returned (.pointer (some ⟨g, o + R.1 * 11, none⟩)) ∧ R.1 < n ∧ HdAt w' hb g o n cap R.2 ∧ Only (fun b => b = hb ∨ b = g) w w'
set_option maxHeartbeats 2000000 in
set_option maxRecDepth 100000 in
theorem hturn_any (h : HdAt w hb g o n cap H) (M : Nat) (hM : bitsN H.l < M) : Calls Tryz.prog 78 #[.pointer (some ⟨hb, 0, none⟩)] w (TuPost w hb g o n cap (H.turn M)) := by
 have HH := Lib.hid (And.intro h hM)
 clear h hM
 go_enter Tryz.func78, Tryz.ntmps78
 go_wp2_with fail
 go_loopg [3] M (fun m _ wr => ∃ G : Hd (List Value), HdAt wr hb g o n cap G ∧ G.turn m = H.turn M ∧ bitsN G.l < m ∧ Only (fun b => b = hb ∨ b = g) w wr)
 case atStart => exact ⟨H, HH.out.1, rfl, HH.out.2, Only.refl _ _⟩
 obtain ⟨G, hG, hT, hbn, ho⟩ := hrel
 obtain ⟨a, ha⟩ : ∃ a, G.at_ = a := ⟨_, rfl⟩
 obtain ⟨m, rfl⟩ : ∃ m, gk = m + 1 := ⟨gk - 1, by omega⟩
 have HG := Lib.hid (And.intro hG (And.intro hT (And.intro hbn (And.intro ho ha))))
 have c0 : wr.cell? ⟨hb, 0, none⟩ = some (.slice (some ⟨g, o, none⟩) n cap) := hG.cells.cell 0
 have c1 : wr.cell? ⟨hb, 1, none⟩ = some (.int .i64 (a : Nat)) := by rw [← ha]; exact hG.cells.cell 1
 have f1 : wr.frozen? ⟨hb, 1, none⟩ = false := hG.cells.free 1
 have hal : a < n := by rw [← ha]; exact hG.lt
 have hn64 := hG.n64
 obtain ⟨x, hx⟩ : ∃ x, G.l[a]? = some x := ⟨_, List.getElem?_eq_getElem (by rw [hG.len]; exact hal)⟩
 have HX := Lib.hid (And.intro hx hal)
 have i0 : (0 : Int) ≤ (a : Int) := by omega
 have i1 : (a : Int) < (n : Int) := by omega
 obtain ⟨b, hb2⟩ : ∃ b, (a + 1) % n = b := ⟨_, rfl⟩
 have HB := Lib.hid hb2
 have hbn2 : b < n := by rw [← hb2]; exact Nat.mod_lt _ (by omega)
 have u1 : IntKind.i64.wrap ((a : Int) + 1) = (a : Int) + 1 := IntWalk.i64_in _ (by omega)
 have t1 : ((a : Int) + 1).tmod (n : Int) = (b : Int) := by
  rw [Int.tmod_eq_emod_of_nonneg (by omega), ← hb2, Int.natCast_emod]
  rfl
 have t2 : IntKind.i64.wrap (b : Int) = (b : Int) := IntWalk.i64_in _ (by omega)
 have t3 : ((n : Int) == 0) = false := by simp; omega
 have t4 : (n == 0) = false := by simp; omega
 have t5 : ¬ (n : Int) = 0 := by omega
 have t6 : ¬ n = 0 := by omega
 have hp1 := hG.atSet hbn2
 have HP1 := Lib.hid hp1
 clear hG hT hbn ho ha hx hal hn64 hb2
 go_wp2_with fail
 go_quiet (fail)
 have hsD : Still wr (wr.drewN nq) := (Still.refl wr).drewN nq
 have c0' : (wr.drewN nq).cell? ⟨hb, 0, none⟩ = some (.slice (some ⟨g, o, none⟩) n cap) := c0
 have c1' : (wr.drewN nq).cell? ⟨hb, 1, none⟩ = some (.int .i64 (a : Nat)) := c1
 have f1' : (wr.drewN nq).frozen? ⟨hb, 1, none⟩ = false := f1
 have HD := Lib.hid hsD
 clear hsD c0 c1 f1 HP1 hp1
 generalize wr.drewN nq = w1 at *
 have HG1 := Lib.hid (HG.out.1.still HD.out)
 have HP1 := Lib.hid (HG1.out.atSet hbn2)
 go_wp2_with fail
 go_still_tail 14, (by kernel_rfl)
 change wpList _ _ _ _ _ w1.drew
 go_upto_region 3 with fail
 have hP : HdAt (w1.setCell ⟨hb, 1, none⟩ (.int .i64 (b : Nat))).drew hb g o n cap ⟨G.l, b⟩ := (HG1.out.atSet hbn2).still (still_drew _)
 have hO : Only (fun c => c = hb ∨ c = g) w (w1.setCell ⟨hb, 1, none⟩ (.int .i64 (b : Nat))).drew := (((HG.out.2.2.2.1.trans (HD.out.mono fun _ e => e.elim))).setCell (p := ⟨hb, 1, none⟩) (.inl (.inl rfl)) _).drew
 have HP := Lib.hid (And.intro hP hO)
 clear hP hO c0' c1' f1' u1 t1 t2 t3 t4 t5 t6 HP1 HG1 HD
 generalize (w1.setCell ⟨hb, 1, none⟩ (.int .i64 (b : Nat))).drew = w2 at *
 obtain ⟨-, -, p9, p10⟩ := HP.out.1.tests (i := a) HX.out.1
 have f9 : w2.frozen? ⟨g, o + a * 11 + 9, none⟩ = false := by
  rw [Nat.add_assoc]
  exact HP.out.1.row.free (a * 11 + 9) (by have := HX.out.2; omega)
 have hxa : G.l[G.at_]? = some x := by rw [HG.out.2.2.2.2]; exact HX.out.1
 have HXA := Lib.hid hxa
 have HLN := Lib.hid (show (G.at_ + 1) % G.l.length = b from by rw [HG.out.2.2.2.2, HP.out.1.len]; exact HB.out)
 obtain ⟨c, hc⟩ : ∃ c, x.bit = c := ⟨_, rfl⟩
 have HC := Lib.hid hc
 rw [hc] at p9
 clear hxa hc
 cases c with
 | false =>
  have F := Lib.hid (show TuPost w hb g o n cap (H.turn M) (.returned (.pointer (some ⟨g, o + a * 11, none⟩))) w2 from by
   rw [← HG.out.2.1, turn_no HXA.out HC.out, HLN.out, HG.out.2.2.2.2]
   exact ⟨rfl, HX.out.2, HP.out.1, HP.out.2⟩)
  go_wp2_with fail
  go_ret
  exact F.out
 | true =>
  have HN := Lib.hid (show ∃ G : Hd (List Value), HdAt (w2.setCell ⟨g, o + a * 11 + 9, none⟩ (.bool false)) hb g o n cap G ∧ G.turn m = H.turn M ∧ bitsN G.l < m ∧ Only (fun b => b = hb ∨ b = g) w (w2.setCell ⟨g, o + a * 11 + 9, none⟩ (.bool false)) from by
   refine ⟨⟨modI Pl.off a G.l, b⟩, ?_, ?_, ?_, HP.out.2.setCell (p := ⟨g, o + a * 11 + 9, none⟩) (.inl (.inr rfl)) _⟩
   · rw [Nat.add_assoc]
     exact HP.out.1.bitSet HX.out.1 false (f := Pl.off) fun y => rfl
   · have := turn_yes (m := m) HXA.out HC.out
     rw [HLN.out, HG.out.2.2.2.2] at this
     rw [← this]
     exact HG.out.2.1
   · have h1 := bitsN_off a G.l x HX.out.1 HC.out
     have h2 := HG.out.2.2.1
     show bitsN (modI Pl.off a G.l) < m
     omega)
  go_wp2_with fail
  go_roundg m
  case measure => omega
  case rel => exact HN.out
end
end Go.Proofs.YtlcfoeikamkpmaaGreat

namespace Go.Proofs.YtlcfoeikamkpmaaGreat
open Go.RowKit Go.Wh Go.Maps

def frZ : List Value := [.slice none 0 0, .slice none 0 0, .slice none 0 0, .slice none 0 0, .int .i64 0, .bool false, .int .i64 0]
theorem size_fr : (Tryz.prog.info? 100).map (·.size) = some 7 := by kernel_rfl
theorem size_pl : (Tryz.prog.info? 137).map (·.size) = some 11 := by kernel_rfl
section
variable {w w' : World} {hb g o n cap : Nat} {H : Hd (List Value)}
theorem HdAt.range (h : HdAt w hb g o n cap H) {i : Nat} {x : Pl (List Value)} (hx : H.l[i]? = some x) : w.rangeAt g (o + i * 11) (plC x) := fun j u hj => by
 have hjl := (List.getElem?_eq_some_iff.1 hj).1
 rw [plC_length (h.fits x (List.mem_of_getElem? hx))] at hjl
 rw [Nat.add_assoc, h.place hx hjl]
 exact hj
theorem HdAt.rangeV (h : HdAt w hb g o n cap H) {i : Nat} {x : Pl (List Value)} (hx : H.l[i]? = some x) : w.rangeAt g (o + i * 11 + 1) x.v := fun j u hj => by
 have hf := h.fits x (List.mem_of_getElem? hx)
 have hjl := (List.getElem?_eq_some_iff.1 hj).1
 rw [hf.1] at hjl
 rw [← plC_v hf hjl] at hj
 rw [Nat.add_assoc, Nat.add_assoc, h.place hx (by omega)]
 exact hj
set_option maxHeartbeats 1000000 in
set_option maxRecDepth 100000 in
theorem pin_zero (w : World) (x : Pl (List Value)) (hf : Fits x) : Calls Tryz.prog 99 #[.agg (plC x).toArray] w (StPost w (.bool true)) := by
 obtain ⟨k, v, a, b⟩ := x
 obtain ⟨h7, h1⟩ := hf
 match v, h7 with
 | [v0, v1, v2, v3, v4, v5, v6], _ =>
  have hst : ∀ ob, Still w (w.alloc ob) := fun ob => (Still.refl w).alloc ob
  have HS := Lib.hid hst
  clear hst h1
  show Calls _ _ #[.agg #[.int .i64 k, v0, v1, v2, v3, v4, v5, v6, .bool a, .bool b, .int .i64 0]] w _
  go_enter Tryz.func99, Tryz.ntmps99
  go_wp2_with fail
  go_ret
  exact ⟨rfl, HS.out _⟩
set_option maxHeartbeats 1000000 in
set_option maxRecDepth 100000 in
theorem hindexF (h : HdAt w hb g o n cap H) : Calls Tryz.prog 147 #[.slice (some ⟨g, o, none⟩) n cap, .func (.func 99) #[] #[]] w (StPost w (.int .i64 0)) := by
 obtain ⟨x, hx⟩ : ∃ x, H.l[0]? = some x := ⟨_, List.getElem?_eq_getElem (by rw [h.len]; exact h.pos)⟩
 have hf := h.fits x (List.mem_of_getElem? hx)
 have HR := Lib.hid (show w.rangeAt g o (plC x) from by
  have := h.range hx
  rw [Nat.zero_mul, Nat.add_zero] at this
  exact this)
 have HP := Lib.hid (pin_zero w x hf)
 have HL := Lib.hid (show (Tryz.prog.info? 137).map (·.size) = some (plC x).length from by rw [plC_length hf]; exact size_pl)
 have d1 : decide ((0 : Int) < (n : Int)) = true := decide_eq_true (by have := h.pos; omega)
 have d2 : decide (0 < n) = true := decide_eq_true h.pos
 have i1 : (0 : Int) < (n : Int) := by have := h.pos; omega
 clear h hx hf
 go_enter Tryz.func147, Tryz.ntmps147
 go_wp2_with fail
 go_loopw [8] (fun s wr => s = .int .i64 0 ∧ w = wr) (fun _ _ => 0)
 case atStart => exact ⟨rfl, rfl⟩
 obtain ⟨rfl, rfl⟩ := hrel
 go_wp2_with (refine wpList_load_mid rfl 137 _ rfl g o rfl (plC x) _ HR.out Tryz.underlying137 rfl HL.out ?_)
 refine HP.out.mono ?_
 rintro e w2 ⟨rfl, hs⟩
 have F := Lib.hid (show StPost w (.int .i64 0) (.returned (.int .i64 0)) w2 from ⟨rfl, hs⟩)
 clear hs
 go_wp2_with fail
 go_ret
 exact F.out
set_option maxHeartbeats 1000000 in
set_option maxRecDepth 100000 in
theorem hpinned_any (h : HdAt w hb g o n cap H) : Calls Tryz.prog 77 #[.pointer (some ⟨hb, 0, none⟩)] w (StPost w (.bool false)) := by
 have c0 : w.cell? ⟨hb, 0, none⟩ = some (.slice (some ⟨g, o, none⟩) n cap) := h.cells.cell 0
 have HI := Lib.hid (hindexF h)
 have HC := Lib.hid (show Calls Tryz.prog 98 #[.slice (some ⟨g, o, none⟩) n cap, .func (.func 99) #[] #[]] w (StPost w (.bool true)) from by
  clear h c0
  go_enter Tryz.func98, Tryz.ntmps98
  go_wp2_with fail
  refine HI.out.mono ?_
  rintro e w2 ⟨rfl, hs⟩
  have F := Lib.hid (show StPost w (.bool true) (.returned (.bool true)) w2 from ⟨rfl, hs⟩)
  clear hs
  go_wp2_with fail
  go_ret
  exact F.out)
 clear h HI
 go_enter Tryz.func77, Tryz.ntmps77
 go_wp2_with fail
 refine HC.out.mono ?_
 rintro e w2 ⟨rfl, hs⟩
 have F := Lib.hid (show StPost w (.bool false) (.returned (.bool false)) w2 from ⟨rfl, hs⟩)
 clear hs
 go_wp2_with fail
 go_ret
 exact F.out
end
end Go.Proofs.YtlcfoeikamkpmaaGreat
