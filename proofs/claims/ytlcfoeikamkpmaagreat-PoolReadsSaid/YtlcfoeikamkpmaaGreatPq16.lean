/- A disk that is new; entries that are said by numbers. Conditions: none but those of the calls. A hand in memory: where a key's place is, where an empty one. Conditions: it lies in memory, at least one place, at most 64. A hand that goes round, in memory: where it comes to rest. Conditions: it lies in memory, at least one place, at most 64. A hand in memory: is all pinned; a copy. Conditions: it lies in memory, at least one place, at most 64. A hand in memory: a copy of it, a new one. Conditions: it lies in memory, at least one place, at most 64. A hand in memory: a key's value, a touch; a value laid. Conditions: it lies in memory, at least one place, at most 64. A hand in memory: Get, Swap. Conditions: it lies in memory, at least one place, at most 64. -/
import Derived.Test.YtlcfoeikamkpmaaGreatPq15
import Derived.Lib.Hide
import Derived.LoopTactic
import Derived.StillTailTactics
import Derived.Deep.MidRow
namespace Go.Proofs.YtlcfoeikamkpmaaGreat
open Go.RowKit Go.Wh Go.Maps

def zeroT (n : Nat) : List (List Int) := List.replicate n (List.replicate 64 0)
theorem newx_any (w : World) (n : Nat) (hn : n ≤ 2000) {N : Int} (hN : (n : Int) = N) :
 Calls Tryz.prog 10 #[.int .i64 N] w (fun e w' => ∃ d, e = .returned (.pointer (some ⟨d, 0, none⟩)) ∧ DkX (fun g => w.heap.size ≤ g ∧ g < w'.heap.size) d (zeroT n) w' ∧ Still w w') := by
 subst hN
 refine (new_any w n hn).mono fun e w' h => ?_
 obtain ⟨d, mb, rfl, h1, h2, tv, vs, hd, hs, ht, hv⟩ := h
 have hlt := hd.lt
 exact ⟨d, rfl, ⟨⟨tv, mb, vs, hd, ⟨h1, hlt.1⟩, ⟨h2, hlt.2⟩, fun g hg => ⟨ht g hg, (hd.td g hg).2.2⟩, fun v hv' g hg => ⟨hv v hv' g hg, (hd.ia v hv' g hg).2.2.2⟩⟩, fun g hg => hg.2, fun l hl => by rw [(List.mem_replicate.1 hl).2]; exact Byt.zeros 64, by unfold zeroT; rw [List.length_replicate]; exact hn⟩, hs⟩
theorem tls_zero {m a n : Nat} (h : a + n ≤ m) : tls (zeroT m) a n = zeroT n := by
 unfold tls zeroT
 rw [List.drop_replicate, List.take_replicate]
 congr 1
 omega
theorem readB_zero (n : Nat) : readB (zeroT n) = [] := by
 cases n with
 | zero => rfl
 | succ n =>
  show readB (List.replicate 64 0 :: zeroT n) = []
  rw [readB_cons]
  rfl
theorem scanB_nil : scanB (([] : List Int).length + 1) [] = ([], 0) := rfl
theorem tileB_nil (i : Nat) : tileB [] i = List.replicate 64 0 := by
 unfold tileB partB
 simp
theorem layB_zero {m a : Nat} : ∀ (n : Nat), a + n ≤ m → layB (zeroT m) a [] n = zeroT m
 | 0, _ => rfl
 | n + 1, h => by
  unfold layB
  rw [layB_zero n (by omega), tileB_nil]
  unfold zeroT
  apply List.ext_getElem?
  intro i
  rw [List.getElem?_set]
  split
  · rename_i hi
    subst hi
    have hi : a + n < m := by omega
    simp [hi]
  · rfl
def nE (k t : Int) : PE := ⟨k, t, 0, 0, 0, 0, 0, 0, 0, 0, [], [], [], [], [], []⟩
theorem nE_may {k t : Int} (h : 1 ≤ k ∧ k ≤ 10) (ht : 0 ≤ t ∧ t < 256) : (nE k t).may = true := by
 unfold PE.may nE
 have p1 : (256 : Int) ^ 1 = 256 := rfl
 simp only [Bool.and_eq_true, fitsB_cons, decide_eq_true_eq, p1]
 exact ⟨⟨⟨⟨⟨⟨⟨⟨⟨⟨⟨⟨h.1, h.2⟩, ⟨ht, by decide⟩⟩, by decide⟩, by decide⟩, by decide⟩, by decide⟩, rfl⟩, rfl⟩, rfl⟩, rfl⟩, rfl⟩, rfl⟩
theorem nE_len (k t : Int) : (frameB (nE k t)).length = 25 := by
 rw [frameB_length, encB_short _ rfl rfl rfl rfl]
 rfl
theorem nE_is (w : World) (P : Nat → Prop) (k t : Int) : EIs w P (nE k t) (.slice none 0 0) (.slice none 0 0) (.slice none 0 0) (.slice none 0 0) (.slice none 0 0) (.slice none 0 0) := EIs.none _ _ _ _ _ _ _ _ _ _
theorem nE_not (t : Int) : (nE 0 t).may = false := by
 unfold PE.may nE
 simp

section
variable {A B Q : Nat → Prop} {w : World} {t d at_ n st : Nat} {es : List PE} {T : List (List Int)} {e : PE} {ov nv mv lv dv pv : Value}
theorem ap_ok (h : TlX B t d at_ n es st w) (he : EIs w Q e ov nv mv lv dv pv) (hm : e.may = true) (hr : (streamB es).length + (frameB e).length ≤ n * 63) {N : Int} (hN : ((es.length + 1 : Nat) : Int) = N) :
 Calls Tryz.prog 24 #[.pointer (some ⟨t, 0, none⟩), .agg (eV e ov nv mv lv dv pv)] w (fun en w' => en = .returned (.tuple #[.int .i64 N, .int .i64 0]) ∧ TlX (Newer B w w') t d at_ n (es ++ [e]) st w' ∧ Only B w w') := by
 refine (append_any B w t d at_ n es st e ov nv mv lv dv pv h he).mono fun en w' hp => ?_
 obtain ⟨es', a, k, rfl, h1, h2, h3⟩ := hp
 rcases h3 with ⟨h, _⟩ | ⟨_, h, _⟩ | ⟨_, _, rfl, rfl, rfl⟩
 · rw [hm] at h; cases h
 · omega
 · exact ⟨by rw [hN], h1, h2⟩
theorem ap_full (h : TlX B t d at_ n es st w) (he : EIs w Q e ov nv mv lv dv pv) (hm : e.may = true) (hr : n * 63 < (streamB es).length + (frameB e).length) :
 Calls Tryz.prog 24 #[.pointer (some ⟨t, 0, none⟩), .agg (eV e ov nv mv lv dv pv)] w (fun en w' => en = .returned (.tuple #[.int .i64 0, .int .i64 5]) ∧ TlX (Newer B w w') t d at_ n es st w' ∧ Only B w w') := by
 refine (append_any B w t d at_ n es st e ov nv mv lv dv pv h he).mono fun en w' hp => ?_
 obtain ⟨es', a, k, rfl, h1, h2, h3⟩ := hp
 rcases h3 with ⟨h, _⟩ | ⟨_, h, rfl, rfl, rfl⟩ | ⟨_, h, _⟩
 · rw [hm] at h; cases h
 · exact ⟨rfl, h1, h2⟩
 · omega
theorem ap_bad (h : TlX B t d at_ n es st w) (he : EIs w Q e ov nv mv lv dv pv) (hm : e.may = false) :
 Calls Tryz.prog 24 #[.pointer (some ⟨t, 0, none⟩), .agg (eV e ov nv mv lv dv pv)] w (fun en w' => en = .returned (.tuple #[.int .i64 0, .int .i64 1]) ∧ TlX (Newer B w w') t d at_ n es st w' ∧ Only B w w') := by
 refine (append_any B w t d at_ n es st e ov nv mv lv dv pv h he).mono fun en w' hp => ?_
 obtain ⟨es', a, k, rfl, h1, h2, h3⟩ := hp
 rcases h3 with ⟨_, rfl, rfl, rfl⟩ | ⟨h, _⟩ | ⟨h, _⟩
 · exact ⟨rfl, h1, h2⟩
 · rw [hm] at h; cases h
 · rw [hm] at h; cases h
def OqPost (A : Nat → Prop) (w : World) (d at_ n : Nat) (T : List (List Int)) (es : List PE) (en : Ending) (w' : World) : Prop :=
 ∃ (t : Nat) (la : Option Addr) (lc : Nat) (A' B C : Nat → Prop), en = .returned (.tuple #[.pointer (some ⟨t, 0, none⟩), .slice la es.length lc, .int .i64 0]) ∧
  DkX A' d T w' ∧ TlX B t d at_ n es es.length w' ∧ Ents w' C (.slice la es.length lc) es ∧ Only A w w' ∧
  (∀ g, A' g → A g ∨ w.heap.size ≤ g) ∧ (∀ g, B g → w.heap.size ≤ g) ∧ (∀ g, C g → w.heap.size ≤ g ∧ g < w'.heap.size) ∧ (∀ g, A' g → ¬ B g) ∧ (∀ g, A' g → ¬ C g) ∧ ∀ g, B g → ¬ C g
theorem open_q {T' : List (List Int)} (hd : DkX A d T w) (hn : at_ + n ≤ T.length) (hk : n ≤ 1000) (he : (scanB ((readB (tls T at_ n)).length + 1) (readB (tls T at_ n))).1 = es) (hT : layB T at_ (streamB es) n = T') {a k : Int} (ha : (at_ : Int) = a) (hkk : (n : Int) = k) :
 Calls Tryz.prog 11 #[.pointer (some ⟨d, 0, none⟩), .int .i64 a, .int .i64 k] w (OqPost A w d at_ n T' es) := by
 subst ha hkk
 refine (open_any hd hn hk).mono fun en w' hp => ?_
 obtain ⟨t, lv, es', A', B, C, rfl, h1, h2, h3, h4, h5⟩ := hp
 rw [he] at h1
 subst h1
 obtain ⟨la, lc, rfl⟩ := h4.form
 rw [hT] at h2
 exact ⟨t, la, lc, A', B, C, rfl, h2, h3, h4, h5⟩
theorem open_zero {m : Nat} (hd : DkX A d (zeroT m) w) (hn : at_ + n ≤ m) (hk : n ≤ 1000) {a k : Int} (ha : (at_ : Int) = a) (hkk : (n : Int) = k) :
 Calls Tryz.prog 11 #[.pointer (some ⟨d, 0, none⟩), .int .i64 a, .int .i64 k] w (OqPost A w d at_ n (zeroT m) []) :=
 open_q hd (by unfold zeroT; rw [List.length_replicate]; exact hn) hk (by rw [tls_zero hn, readB_zero]; rfl) (layB_zero n hn) ha hkk
theorem layB_same : ∀ {j : Nat} {T : List (List Int)} {a : Nat} {S : List Int} {n : Nat}, a + n ≤ T.length → j ≤ n → layB (layB T a S n) a S j = layB T a S n
 | 0, _, _, _, _, _, _ => rfl
 | j + 1, T, a, S, n, hl, hj => by
  show (layB (layB T a S n) a S j).set (a + j) (tileB S j) = _
  rw [layB_same hl (by omega)]
  apply List.ext_getElem?
  intro i
  rw [List.getElem?_set]
  split
  · rename_i hi
    subst hi
    rw [layB_get hl (by omega), if_pos (by rw [layB_length]; omega)]
  · rfl
theorem open_laid (hd : DkX A d (layB T at_ (streamB es) n) w) (hn : at_ + n ≤ T.length) (hk : n ≤ 1000) (hm : ∀ e ∈ es, e.may = true) (hs : (streamB es).length ≤ n * 63) {a k : Int} (ha : (at_ : Int) = a) (hkk : (n : Int) = k) :
 Calls Tryz.prog 11 #[.pointer (some ⟨d, 0, none⟩), .int .i64 a, .int .i64 k] w (OqPost A w d at_ n (layB T at_ (streamB es) n) es) :=
 open_q hd (by rw [layB_length]; exact hn) hk (scan_laid hn hm hs) (layB_same hn (Nat.le_refl _)) ha hkk
theorem stable_x (h : TlX B t d at_ n es st w) {N : Int} (hN : (st : Int) = N) : Calls Tryz.prog 25 #[.pointer (some ⟨t, 0, none⟩)] w (SamePost w (.int .i64 N)) := by
 subst hN
 obtain ⟨sv, h1, -, -⟩ := h.tl
 exact stable_any w t d at_ n (streamB es) sv es.length st h1
theorem count_x (h : TlX B t d at_ n es st w) {N : Int} (hN : (es.length : Int) = N) : Calls Tryz.prog 26 #[.pointer (some ⟨t, 0, none⟩)] w (SamePost w (.int .i64 N)) := by
 subst hN
 obtain ⟨sv, h1, -, -⟩ := h.tl
 exact count_any w t d at_ n (streamB es) sv es.length st h1
theorem left_x (h : TlX B t d at_ n es st w) {N : Int} (hN : 63 * (n : Int) - ((streamB es).length : Int) = N) : Calls Tryz.prog 61 #[.pointer (some ⟨t, 0, none⟩)] w (StPost w (.int .i64 N)) := by
 subst hN
 obtain ⟨sv, h1, -, -⟩ := h.tl
 exact left_any w t d at_ n (streamB es) sv es.length st h1 h.n_le (by have := h.len; have := h.n_le; omega)
end
end Go.Proofs.YtlcfoeikamkpmaaGreat

namespace Go.Proofs.YtlcfoeikamkpmaaGreat
open Go.RowKit Go.Wh Go.Maps

def plC (x : Pl (List Value)) : List Value := .int .i64 x.k :: (x.v ++ [.bool x.has, .bool x.bit, .int .i64 0])
def rowsC (l : List (Pl (List Value))) : List Value := (l.map plC).flatten
def Fits (x : Pl (List Value)) : Prop := x.v.length = 7 ∧ ∀ u ∈ x.v, u.oneCell' = true
structure HdAt (w : World) (hb g o n cap : Nat) (H : Hd (List Value)) : Prop where
 cells : cellsAt w hb [.slice (some ⟨g, o, none⟩) n cap, .int .i64 (H.at_ : Nat)]
 row : VecAt w 11 g o n cap (rowsC H.l)
 len : H.l.length = n
 fits : ∀ x ∈ H.l, Fits x
 pos : 0 < n
 n64 : n ≤ 64
 lt : H.at_ < n
 ne : hb ≠ g
theorem plC_length {x : Pl (List Value)} (h : Fits x) : (plC x).length = 11 := by
 unfold plC
 rw [List.length_cons, List.length_append, h.1]
 rfl
theorem plC_one {x : Pl (List Value)} (h : Fits x) : ∀ u ∈ plC x, u.oneCell' = true := by
 intro u hu
 unfold plC at hu
 rcases List.mem_cons.1 hu with rfl | hu
 · rfl
 · rcases List.mem_append.1 hu with hu | hu
   · exact h.2 u hu
   · simp only [List.mem_cons, List.not_mem_nil, or_false] at hu
     rcases hu with rfl | rfl | rfl <;> rfl
theorem plC_at {x : Pl (List Value)} (h : Fits x) : (plC x)[0]? = some (.int .i64 x.k) ∧ (plC x)[8]? = some (.bool x.has) ∧ (plC x)[9]? = some (.bool x.bit) ∧ (plC x)[10]? = some (.int .i64 0) := by
 obtain ⟨k, v, a, b⟩ := x
 obtain ⟨h7, -⟩ := h
 match v, h7 with
 | [v0, v1, v2, v3, v4, v5, v6], _ => exact ⟨rfl, rfl, rfl, rfl⟩
theorem plC_v {x : Pl (List Value)} (h : Fits x) {j : Nat} (hj : j < 7) : (plC x)[1 + j]? = x.v[j]? := by
 unfold plC
 rw [Nat.add_comm, List.getElem?_cons_succ, List.getElem?_append_left (by rw [h.1]; exact hj)]
theorem rows_get {sz : Nat} : ∀ (vs : List (List Value)) (k j : Nat) (c : List Value), (∀ v ∈ vs, v.length = sz) → vs[k]? = some c → j < sz → vs.flatten[k * sz + j]? = c[j]?
 | [], _, _, _, _, h, _ => by simp at h
 | v :: vs, 0, j, c, hs, h, hj => by
  simp at h
  subst h
  rw [List.flatten_cons, Nat.zero_mul, Nat.zero_add, List.getElem?_append_left (by rw [hs v (by simp)]; exact hj)]
 | v :: vs, k + 1, j, c, hs, h, hj => by
  rw [List.flatten_cons, List.getElem?_append_right (by rw [hs v (by simp), Nat.add_mul]; omega), hs v (by simp)]
  have e : (k + 1) * sz + j - sz = k * sz + j := by rw [Nat.add_mul]; omega
  rw [e]
  exact rows_get vs k j c (fun u hu => hs u (by simp [hu])) (by simpa using h) hj
section
variable {w w' : World} {hb g o n cap : Nat} {H : Hd (List Value)}
theorem HdAt.only {X : Nat → Prop} (h : HdAt w hb g o n cap H) (ho : Only X w w') (h1 : ¬ X hb) (h2 : ¬ X g) : HdAt w' hb g o n cap H :=
 ⟨h.cells.only ho h1, h.row.block (ho.block g (h.row.lt (by have := h.pos; have := h.row.le; omega)) h2), h.len, h.fits, h.pos, h.n64, h.lt, h.ne⟩
theorem HdAt.still (h : HdAt w hb g o n cap H) (hs : Still w w') : HdAt w' hb g o n cap H := h.only hs (fun e => e) fun e => e
theorem HdAt.place (h : HdAt w hb g o n cap H) {i : Nat} {x : Pl (List Value)} (hx : H.l[i]? = some x) {j : Nat} (hj : j < 11) : w.cell? ⟨g, o + (i * 11 + j), none⟩ = (plC x)[j]? := by
 have hi := (List.getElem?_eq_some_iff.1 hx).1
 rw [h.len] at hi
 have hij : i * 11 + j < n * 11 := by omega
 rw [h.row.cell _ hij]
 unfold rowsC
 exact rows_get (sz := 11) _ i j (plC x) (fun v hv => by
  obtain ⟨y, hy, rfl⟩ := List.mem_map.1 hv
  exact plC_length (h.fits y hy)) (by rw [List.getElem?_map, hx]; rfl) hj
theorem HdAt.tests (h : HdAt w hb g o n cap H) {i : Nat} {x : Pl (List Value)} (hx : H.l[i]? = some x) :
 w.cell? ⟨g, o + i * 11, none⟩ = some (.int .i64 x.k) ∧ w.cell? ⟨g, o + i * 11 + 8, none⟩ = some (.bool x.has) ∧ w.cell? ⟨g, o + i * 11 + 9, none⟩ = some (.bool x.bit) ∧ w.cell? ⟨g, o + i * 11 + 10, none⟩ = some (.int .i64 0) := by
 have hf := h.fits x (List.mem_of_getElem? hx)
 obtain ⟨p0, p8, p9, p10⟩ := plC_at hf
 refine ⟨?_, ?_, ?_, ?_⟩
 · rw [← p0]; exact h.place hx (j := 0) (by omega)
 · rw [Nat.add_assoc, ← p8]; exact h.place hx (j := 8) (by omega)
 · rw [Nat.add_assoc, ← p9]; exact h.place hx (j := 9) (by omega)
 · rw [Nat.add_assoc, ← p10]; exact h.place hx (j := 10) (by omega)
def plP (g o n i : Nat) : Value := if i < n then .pointer (some ⟨g, o + i * 11, none⟩) else .pointer none
set_option maxHeartbeats 1000000 in
set_option maxRecDepth 100000 in
theorem hfind_any (h : HdAt w hb g o n cap H) (k : Int) : Calls Tryz.prog 75 #[.pointer (some ⟨hb, 0, none⟩), .int .i64 k] w (SamePost w (plP g o n (fdI (isK k) H.l))) := by
 have HH := Lib.hid h
 have c0 : w.cell? ⟨hb, 0, none⟩ = some (.slice (some ⟨g, o, none⟩) n cap) := h.cells.cell 0
 have HN := Lib.hid (And.intro h.len (And.intro h.pos h.n64))
 clear h
 go_enter Tryz.func75, Tryz.ntmps75
 go_wp2_with fail
 go_loopw [12] (fun s wr => ∃ i : Nat, s = .int .i64 i ∧ i ≤ n ∧ w = wr ∧ ∀ (j : Nat) (y : Pl (List Value)), j < i → H.l[j]? = some y → isK k y = false) (fun s _ => n - (intOf s).toNat)
 case atStart => exact ⟨0, rfl, Nat.zero_le _, rfl, fun j y hj => by omega⟩
 obtain ⟨i, rfl, hin, rfl, hno⟩ := hrel
 have HNO := Lib.hid hno
 clear hno
 by_cases hi : i < n
 rotate_left
 · have d1 : decide ((i : Int) < (n : Int)) = false := decide_eq_false (by omega)
   have d2 : decide (i < n) = false := decide_eq_false hi
   have F := Lib.hid (show SamePost w (plP g o n (fdI (isK k) H.l)) (.returned (.pointer none)) w from by
    have e : fdI (isK k) H.l = H.l.length := fdI_end fun j y hj => HNO.out j y (by have := (List.getElem?_eq_some_iff.1 hj).1; have := HN.out.1; omega) hj
    unfold plP
    rw [e, HN.out.1, if_neg (by omega)]
    exact ⟨rfl, rfl⟩)
   clear hi hin
   go_wp2_with fail
   go_ret
   exact F.out
 have d1 : decide ((i : Int) < (n : Int)) = true := decide_eq_true (by omega)
 have d2 : decide (i < n) = true := decide_eq_true hi
 have i0 : (0 : Int) ≤ (i : Int) := by omega
 have i1 : (i : Int) < (n : Int) := by omega
 have u9 : IntKind.i64.wrap ((i : Int) + 1) = (i : Int) + 1 := IntWalk.i64_in _ (by have := HN.out; omega)
 obtain ⟨x, hx⟩ : ∃ x, H.l[i]? = some x := ⟨_, List.getElem?_eq_getElem (by have := HN.out; omega)⟩
 obtain ⟨p0, p8, -, -⟩ := HH.out.tests hx
 have HX := Lib.hid hx
 have HI := Lib.hid hi
 obtain ⟨a, ha⟩ : ∃ a, x.has = a := ⟨_, rfl⟩
 obtain ⟨b, hb'⟩ : ∃ b, (x.k == k) = b := ⟨_, rfl⟩
 have HAB := Lib.hid (show isK k x = (a && b) from by unfold isK; rw [ha, hb'])
 rw [ha] at p8
 have hb2 : decide (x.k = k) = b := by rw [← hb']; rfl
 clear hx hi hin ha
 by_cases hab : (a && b) = true
 · have F := Lib.hid (show SamePost w (plP g o n (fdI (isK k) H.l)) (.returned (.pointer (some ⟨g, o + i * 11, none⟩))) w from by
    have e : fdI (isK k) H.l = i := fdI_at HNO.out HX.out (by rw [HAB.out, hab])
    unfold plP
    rw [e, if_pos HI.out]
    exact ⟨rfl, rfl⟩)
   obtain ⟨rfl, rfl⟩ : a = true ∧ b = true := by simpa using hab
   clear hab
   go_wp2_with fail
   go_ret
   exact F.out
 · have HN2 := Lib.hid (show ∀ (j : Nat) (y : Pl (List Value)), j < i + 1 → H.l[j]? = some y → isK k y = false from fun j y hj hy => by
    by_cases e : j = i
    · subst e
      rw [HX.out] at hy
      cases hy
      rw [HAB.out]
      simpa using hab
    · exact HNO.out j y (by omega) hy)
   cases a with
   | false =>
    clear hab hb2 hb'
    go_wp2_with fail
    go_roundw
    case rel => exact ⟨i + 1, by go_num, by have := HI.out; omega, (by first | trivial | rfl), HN2.out⟩
    case measure => first | (simp [intOf]; done) | (simp [intOf]; have := HI.out; omega)
   | true =>
    obtain rfl : b = false := by simpa using hab
    clear hab
    go_wp2_with fail
    go_roundw
    case rel => exact ⟨i + 1, by go_num, by have := HI.out; omega, (by first | trivial | rfl), HN2.out⟩
    case measure => first | (simp [intOf]; done) | (simp [intOf]; have := HI.out; omega)
set_option maxHeartbeats 1000000 in
set_option maxRecDepth 100000 in
theorem hfree_any (h : HdAt w hb g o n cap H) : Calls Tryz.prog 76 #[.pointer (some ⟨hb, 0, none⟩)] w (SamePost w (plP g o n (fdI noH H.l))) := by
 have HH := Lib.hid h
 have c0 : w.cell? ⟨hb, 0, none⟩ = some (.slice (some ⟨g, o, none⟩) n cap) := h.cells.cell 0
 have HN := Lib.hid (And.intro h.len (And.intro h.pos h.n64))
 clear h
 go_enter Tryz.func76, Tryz.ntmps76
 go_wp2_with fail
 go_loopw [9] (fun s wr => ∃ i : Nat, s = .int .i64 i ∧ i ≤ n ∧ w = wr ∧ ∀ (j : Nat) (y : Pl (List Value)), j < i → H.l[j]? = some y → noH y = false) (fun s _ => n - (intOf s).toNat)
 case atStart => exact ⟨0, rfl, Nat.zero_le _, rfl, fun j y hj => by omega⟩
 obtain ⟨i, rfl, hin, rfl, hno⟩ := hrel
 have HNO := Lib.hid hno
 clear hno
 by_cases hi : i < n
 rotate_left
 · have d1 : decide ((i : Int) < (n : Int)) = false := decide_eq_false (by omega)
   have d2 : decide (i < n) = false := decide_eq_false hi
   have F := Lib.hid (show SamePost w (plP g o n (fdI noH H.l)) (.returned (.pointer none)) w from by
    have e : fdI noH H.l = H.l.length := fdI_end fun j y hj => HNO.out j y (by have := (List.getElem?_eq_some_iff.1 hj).1; have := HN.out.1; omega) hj
    unfold plP
    rw [e, HN.out.1, if_neg (by omega)]
    exact ⟨rfl, rfl⟩)
   clear hi hin
   go_wp2_with fail
   go_ret
   exact F.out
 have d1 : decide ((i : Int) < (n : Int)) = true := decide_eq_true (by omega)
 have d2 : decide (i < n) = true := decide_eq_true hi
 have i0 : (0 : Int) ≤ (i : Int) := by omega
 have i1 : (i : Int) < (n : Int) := by omega
 have u9 : IntKind.i64.wrap ((i : Int) + 1) = (i : Int) + 1 := IntWalk.i64_in _ (by have := HN.out; omega)
 obtain ⟨x, hx⟩ : ∃ x, H.l[i]? = some x := ⟨_, List.getElem?_eq_getElem (by have := HN.out; omega)⟩
 obtain ⟨p0, p8, -, -⟩ := HH.out.tests hx
 have HX := Lib.hid hx
 have HI := Lib.hid hi
 obtain ⟨a, ha⟩ : ∃ a, x.has = a := ⟨_, rfl⟩
 have HAB := Lib.hid (show noH x = !a from by unfold noH; rw [ha])
 rw [ha] at p8
 clear hx hi hin ha p0
 cases a with
 | false =>
  have F := Lib.hid (show SamePost w (plP g o n (fdI noH H.l)) (.returned (.pointer (some ⟨g, o + i * 11, none⟩))) w from by
   have e : fdI noH H.l = i := fdI_at HNO.out HX.out (by rw [HAB.out]; rfl)
   unfold plP
   rw [e, if_pos HI.out]
   exact ⟨rfl, rfl⟩)
  go_wp2_with fail
  go_ret
  exact F.out
 | true =>
  have HN2 := Lib.hid (show ∀ (j : Nat) (y : Pl (List Value)), j < i + 1 → H.l[j]? = some y → noH y = false from fun j y hj hy => by
   by_cases e : j = i
   · subst e
     rw [HX.out] at hy
     cases hy
     rw [HAB.out]
     rfl
   · exact HNO.out j y (by omega) hy)
  go_wp2_with fail
  go_roundw
  case rel => exact ⟨i + 1, by go_num, by have := HI.out; omega, (by first | trivial | rfl), HN2.out⟩
  case measure => first | (simp [intOf]; done) | (simp [intOf]; have := HI.out; omega)
end
end Go.Proofs.YtlcfoeikamkpmaaGreat

namespace Go.Proofs.YtlcfoeikamkpmaaGreat
open Go.RowKit Go.Wh Go.Maps

def bitsN (l : List (Pl (List Value))) : Nat := (l.filter (·.bit)).length
theorem bitsN_le (l : List (Pl (List Value))) : bitsN l ≤ l.length := List.length_filter_le _ _
theorem bitsN_off : ∀ (i : Nat) (l : List (Pl (List Value))) (x : Pl (List Value)), l[i]? = some x → x.bit = true → bitsN (modI Pl.off i l) + 1 = bitsN l
 | _, [], _, h, _ => by simp at h
 | 0, y :: l, x, h, hb => by
  simp at h
  subst h
  unfold modI bitsN
  simp [Pl.off, hb]
 | i + 1, y :: l, x, h, hb => by
  have ih := bitsN_off i l x (by simpa using h) hb
  unfold bitsN at ih ⊢
  unfold modI
  simp only [List.filter_cons]
  split
  · simp only [List.length_cons]
    omega
  · exact ih
theorem rowsC_cons (y : Pl (List Value)) (l : List (Pl (List Value))) : rowsC (y :: l) = plC y ++ rowsC l := by simp [rowsC]
theorem rows_set (f : Pl (List Value) → Pl (List Value)) (j : Nat) (u : Value) (hj : j < 11) : ∀ (i : Nat) (l : List (Pl (List Value))) (x : Pl (List Value)), (∀ y ∈ l, Fits y) → l[i]? = some x → plC (f x) = (plC x).set j u → rowsC (modI f i l) = (rowsC l).set (i * 11 + j) u
 | _, [], _, _, h, _ => by simp at h
 | 0, y :: l, x, hf, h, hs => by
  simp at h
  subst h
  show rowsC (f y :: l) = _
  rw [rowsC_cons, rowsC_cons, hs, Nat.zero_mul, Nat.zero_add, List.set_append_left _ _ (by rw [plC_length (hf y (by simp))]; exact hj)]
 | i + 1, y :: l, x, hf, h, hs => by
  have ih := rows_set f j u hj i l x (fun z hz => hf z (by simp [hz])) (by simpa using h) hs
  have hl := plC_length (hf y (by simp))
  show rowsC (y :: modI f i l) = _
  rw [rowsC_cons, rowsC_cons, ih, List.set_append_right _ _ (by rw [hl, Nat.add_mul]; omega), hl]
  congr 2
  rw [Nat.add_mul]
  omega
theorem plC_bit (x : Pl (List Value)) (b : Bool) (h : Fits x) : plC { x with bit := b } = (plC x).set 9 (.bool b) := by
 obtain ⟨k, v, a, c⟩ := x
 obtain ⟨h7, -⟩ := h
 match v, h7 with
 | [v0, v1, v2, v3, v4, v5, v6], _ => rfl
section
variable {w w' : World} {hb g o n cap : Nat} {H : Hd (List Value)}
theorem HdAt.atSet (h : HdAt w hb g o n cap H) {a : Nat} (ha : a < n) : HdAt (w.setCell ⟨hb, 1, none⟩ (.int .i64 (a : Nat))) hb g o n cap ⟨H.l, a⟩ :=
 ⟨h.cells.setCell 1 _, h.row.block ((setCell_only w ⟨hb, 1, none⟩ _).block g (h.row.lt (by have := h.pos; have := h.row.le; omega)) (fun e => h.ne (show g = hb from e).symm)), h.len, h.fits, h.pos, h.n64, ha, h.ne⟩
theorem fits_mod {f : Pl (List Value) → Pl (List Value)} (hf : ∀ x, Fits x → Fits (f x)) : ∀ (i : Nat) (l : List (Pl (List Value))), (∀ x ∈ l, Fits x) → ∀ x ∈ modI f i l, Fits x
 | _, [], _ => by simp [modI]
 | 0, y :: l, h => by
  intro x hx
  rcases List.mem_cons.1 hx with rfl | hx
  · exact hf _ (h y (by simp))
  · exact h x (by simp [hx])
 | i + 1, y :: l, h => by
  intro x hx
  rcases List.mem_cons.1 hx with rfl | hx
  · exact h _ (by simp)
  · exact fits_mod hf i l (fun z hz => h z (by simp [hz])) x hx
theorem HdAt.bitSet (h : HdAt w hb g o n cap H) {i : Nat} {x : Pl (List Value)} (hx : H.l[i]? = some x) (b : Bool) {f : Pl (List Value) → Pl (List Value)} (hf : ∀ y, f y = { y with bit := b }) : HdAt (w.setCell ⟨g, o + (i * 11 + 9), none⟩ (.bool b)) hb g o n cap ⟨modI f i H.l, H.at_⟩ := by
 have hi := (List.getElem?_eq_some_iff.1 hx).1
 rw [h.len] at hi
 refine ⟨h.cells.setOther h.ne _, ?_, by rw [modI_length]; exact h.len, fits_mod (fun y hy => by rw [hf]; exact hy) i _ h.fits, h.pos, h.n64, h.lt, h.ne⟩
 have hr := h.row.set (i * 11 + 9) (by omega) (.bool b)
 rw [← rows_set f 9 (.bool b) (by omega) i H.l x h.fits hx (by rw [hf]; exact plC_bit x b (h.fits x (List.mem_of_getElem? hx)))] at hr
 exact hr
theorem turn_no {m : Nat} {x : Pl (List Value)} (hx : H.l[H.at_]? = some x) (hb : x.bit = false) : H.turn (m + 1) = (H.at_, ⟨H.l, (H.at_ + 1) % H.l.length⟩) := by
 unfold Hd.turn
 rw [hx]
 simp only
 rw [if_pos hb]
theorem turn_yes {m : Nat} {x : Pl (List Value)} (hx : H.l[H.at_]? = some x) (hb : x.bit = true) : H.turn (m + 1) = Hd.turn m ⟨modI Pl.off H.at_ H.l, (H.at_ + 1) % H.l.length⟩ := by
 conv => lhs; unfold Hd.turn
 rw [hx]
 simp only
 rw [if_neg (by rw [hb]; decide)]
def TuPost (w : World) (hb g o n cap : Nat) (R : Nat × Hd (List Value)) (e : Ending) (w' : World) : Prop := e = .returned (.pointer (some ⟨g, o + R.1 * 11, none⟩)) ∧ R.1 < n ∧ HdAt w' hb g o n cap R.2 ∧ Only (fun b => b = hb ∨ b = g) w w'
set_option maxHeartbeats 2000000 in
set_option maxRecDepth 100000 in
theorem hturn_any (h : HdAt w hb g o n cap H) (M : Nat) (hM : bitsN H.l < M) : Calls Tryz.prog 78 #[.pointer (some ⟨hb, 0, none⟩)] w (TuPost w hb g o n cap (H.turn M)) := by
 have HH := Lib.hid (And.intro h hM)
 clear h hM
 go_enter Tryz.func78, Tryz.ntmps78
 go_wp2_with fail
 go_loopg [3] M (fun m _ wr => ∃ G : Hd (List Value), HdAt wr hb g o n cap G ∧ G.turn m = H.turn M ∧ bitsN G.l < m ∧ Only (fun b => b = hb ∨ b = g) w wr)
 case atStart => exact ⟨H, HH.out.1, rfl, HH.out.2, Only.refl _ _⟩
 obtain ⟨G, hG, hT, hbn, ho⟩ := hrel
 obtain ⟨a, ha⟩ : ∃ a, G.at_ = a := ⟨_, rfl⟩
 obtain ⟨m, rfl⟩ : ∃ m, gk = m + 1 := ⟨gk - 1, by omega⟩
 have HG := Lib.hid (And.intro hG (And.intro hT (And.intro hbn (And.intro ho ha))))
 have c0 : wr.cell? ⟨hb, 0, none⟩ = some (.slice (some ⟨g, o, none⟩) n cap) := hG.cells.cell 0
 have c1 : wr.cell? ⟨hb, 1, none⟩ = some (.int .i64 (a : Nat)) := by rw [← ha]; exact hG.cells.cell 1
 have f1 : wr.frozen? ⟨hb, 1, none⟩ = false := hG.cells.free 1
 have hal : a < n := by rw [← ha]; exact hG.lt
 have hn64 := hG.n64
 obtain ⟨x, hx⟩ : ∃ x, G.l[a]? = some x := ⟨_, List.getElem?_eq_getElem (by rw [hG.len]; exact hal)⟩
 have HX := Lib.hid (And.intro hx hal)
 have i0 : (0 : Int) ≤ (a : Int) := by omega
 have i1 : (a : Int) < (n : Int) := by omega
 obtain ⟨b, hb2⟩ : ∃ b, (a + 1) % n = b := ⟨_, rfl⟩
 have HB := Lib.hid hb2
 have hbn2 : b < n := by rw [← hb2]; exact Nat.mod_lt _ (by omega)
 have u1 : IntKind.i64.wrap ((a : Int) + 1) = (a : Int) + 1 := IntWalk.i64_in _ (by omega)
 have t1 : ((a : Int) + 1).tmod (n : Int) = (b : Int) := by
  rw [Int.tmod_eq_emod_of_nonneg (by omega), ← hb2, Int.natCast_emod]
  rfl
 have t2 : IntKind.i64.wrap (b : Int) = (b : Int) := IntWalk.i64_in _ (by omega)
 have t3 : ((n : Int) == 0) = false := by simp; omega
 have t4 : (n == 0) = false := by simp; omega
 have t5 : ¬ (n : Int) = 0 := by omega
 have t6 : ¬ n = 0 := by omega
 have hp1 := hG.atSet hbn2
 have HP1 := Lib.hid hp1
 clear hG hT hbn ho ha hx hal hn64 hb2
 go_wp2_with fail
 go_quiet (fail)
 have hsD : Still wr (wr.drewN nq) := (Still.refl wr).drewN nq
 have c0' : (wr.drewN nq).cell? ⟨hb, 0, none⟩ = some (.slice (some ⟨g, o, none⟩) n cap) := c0
 have c1' : (wr.drewN nq).cell? ⟨hb, 1, none⟩ = some (.int .i64 (a : Nat)) := c1
 have f1' : (wr.drewN nq).frozen? ⟨hb, 1, none⟩ = false := f1
 have HD := Lib.hid hsD
 clear hsD c0 c1 f1 HP1 hp1
 generalize wr.drewN nq = w1 at *
 have HG1 := Lib.hid (HG.out.1.still HD.out)
 have HP1 := Lib.hid (HG1.out.atSet hbn2)
 go_wp2_with fail
 go_still_tail 14, (by kernel_rfl)
 change wpList _ _ _ _ _ w1.drew
 go_upto_region 3 with fail
 have hP : HdAt (w1.setCell ⟨hb, 1, none⟩ (.int .i64 (b : Nat))).drew hb g o n cap ⟨G.l, b⟩ := (HG1.out.atSet hbn2).still (still_drew _)
 have hO : Only (fun c => c = hb ∨ c = g) w (w1.setCell ⟨hb, 1, none⟩ (.int .i64 (b : Nat))).drew := (((HG.out.2.2.2.1.trans (HD.out.mono fun _ e => e.elim))).setCell (p := ⟨hb, 1, none⟩) (.inl (.inl rfl)) _).drew
 have HP := Lib.hid (And.intro hP hO)
 clear hP hO c0' c1' f1' u1 t1 t2 t3 t4 t5 t6 HP1 HG1 HD
 generalize (w1.setCell ⟨hb, 1, none⟩ (.int .i64 (b : Nat))).drew = w2 at *
 obtain ⟨-, -, p9, p10⟩ := HP.out.1.tests (i := a) HX.out.1
 have f9 : w2.frozen? ⟨g, o + a * 11 + 9, none⟩ = false := by
  rw [Nat.add_assoc]
  exact HP.out.1.row.free (a * 11 + 9) (by have := HX.out.2; omega)
 have hxa : G.l[G.at_]? = some x := by rw [HG.out.2.2.2.2]; exact HX.out.1
 have HXA := Lib.hid hxa
 have HLN := Lib.hid (show (G.at_ + 1) % G.l.length = b from by rw [HG.out.2.2.2.2, HP.out.1.len]; exact HB.out)
 obtain ⟨c, hc⟩ : ∃ c, x.bit = c := ⟨_, rfl⟩
 have HC := Lib.hid hc
 rw [hc] at p9
 clear hxa hc
 cases c with
 | false =>
  have F := Lib.hid (show TuPost w hb g o n cap (H.turn M) (.returned (.pointer (some ⟨g, o + a * 11, none⟩))) w2 from by
   rw [← HG.out.2.1, turn_no HXA.out HC.out, HLN.out, HG.out.2.2.2.2]
   exact ⟨rfl, HX.out.2, HP.out.1, HP.out.2⟩)
  go_wp2_with fail
  go_ret
  exact F.out
 | true =>
  have HN := Lib.hid (show ∃ G : Hd (List Value), HdAt (w2.setCell ⟨g, o + a * 11 + 9, none⟩ (.bool false)) hb g o n cap G ∧ G.turn m = H.turn M ∧ bitsN G.l < m ∧ Only (fun b => b = hb ∨ b = g) w (w2.setCell ⟨g, o + a * 11 + 9, none⟩ (.bool false)) from by
   refine ⟨⟨modI Pl.off a G.l, b⟩, ?_, ?_, ?_, HP.out.2.setCell (p := ⟨g, o + a * 11 + 9, none⟩) (.inl (.inr rfl)) _⟩
   · rw [Nat.add_assoc]
     exact HP.out.1.bitSet HX.out.1 false (f := Pl.off) fun y => rfl
   · have := turn_yes (m := m) HXA.out HC.out
     rw [HLN.out, HG.out.2.2.2.2] at this
     rw [← this]
     exact HG.out.2.1
   · have h1 := bitsN_off a G.l x HX.out.1 HC.out
     have h2 := HG.out.2.2.1
     show bitsN (modI Pl.off a G.l) < m
     omega)
  go_wp2_with fail
  go_roundg m
  case measure => omega
  case rel => exact HN.out
end
end Go.Proofs.YtlcfoeikamkpmaaGreat

namespace Go.Proofs.YtlcfoeikamkpmaaGreat
open Go.RowKit Go.Wh Go.Maps

def frZ : List Value := [.slice none 0 0, .slice none 0 0, .slice none 0 0, .slice none 0 0, .int .i64 0, .bool false, .int .i64 0]
theorem size_fr : (Tryz.prog.info? 100).map (·.size) = some 7 := by kernel_rfl
theorem size_pl : (Tryz.prog.info? 137).map (·.size) = some 11 := by kernel_rfl
section
variable {w w' : World} {hb g o n cap : Nat} {H : Hd (List Value)}
theorem HdAt.range (h : HdAt w hb g o n cap H) {i : Nat} {x : Pl (List Value)} (hx : H.l[i]? = some x) : w.rangeAt g (o + i * 11) (plC x) := fun j u hj => by
 have hjl := (List.getElem?_eq_some_iff.1 hj).1
 rw [plC_length (h.fits x (List.mem_of_getElem? hx))] at hjl
 rw [Nat.add_assoc, h.place hx hjl]
 exact hj
theorem HdAt.rangeV (h : HdAt w hb g o n cap H) {i : Nat} {x : Pl (List Value)} (hx : H.l[i]? = some x) : w.rangeAt g (o + i * 11 + 1) x.v := fun j u hj => by
 have hf := h.fits x (List.mem_of_getElem? hx)
 have hjl := (List.getElem?_eq_some_iff.1 hj).1
 rw [hf.1] at hjl
 rw [← plC_v hf hjl] at hj
 rw [Nat.add_assoc, Nat.add_assoc, h.place hx (by omega)]
 exact hj
set_option maxHeartbeats 1000000 in
set_option maxRecDepth 100000 in
theorem pin_zero (w : World) (x : Pl (List Value)) (hf : Fits x) : Calls Tryz.prog 99 #[.agg (plC x).toArray] w (StPost w (.bool true)) := by
 obtain ⟨k, v, a, b⟩ := x
 obtain ⟨h7, h1⟩ := hf
 match v, h7 with
 | [v0, v1, v2, v3, v4, v5, v6], _ =>
  have hst : ∀ ob, Still w (w.alloc ob) := fun ob => (Still.refl w).alloc ob
  have HS := Lib.hid hst
  clear hst h1
  show Calls _ _ #[.agg #[.int .i64 k, v0, v1, v2, v3, v4, v5, v6, .bool a, .bool b, .int .i64 0]] w _
  go_enter Tryz.func99, Tryz.ntmps99
  go_wp2_with fail
  go_ret
  exact ⟨rfl, HS.out _⟩
set_option maxHeartbeats 1000000 in
set_option maxRecDepth 100000 in
theorem hindexF (h : HdAt w hb g o n cap H) : Calls Tryz.prog 147 #[.slice (some ⟨g, o, none⟩) n cap, .func (.func 99) #[] #[]] w (StPost w (.int .i64 0)) := by
 obtain ⟨x, hx⟩ : ∃ x, H.l[0]? = some x := ⟨_, List.getElem?_eq_getElem (by rw [h.len]; exact h.pos)⟩
 have hf := h.fits x (List.mem_of_getElem? hx)
 have HR := Lib.hid (show w.rangeAt g o (plC x) from by
  have := h.range hx
  rw [Nat.zero_mul, Nat.add_zero] at this
  exact this)
 have HP := Lib.hid (pin_zero w x hf)
 have HL := Lib.hid (show (Tryz.prog.info? 137).map (·.size) = some (plC x).length from by rw [plC_length hf]; exact size_pl)
 have d1 : decide ((0 : Int) < (n : Int)) = true := decide_eq_true (by have := h.pos; omega)
 have d2 : decide (0 < n) = true := decide_eq_true h.pos
 have i1 : (0 : Int) < (n : Int) := by have := h.pos; omega
 clear h hx hf
 go_enter Tryz.func147, Tryz.ntmps147
 go_wp2_with fail
 go_loopw [8] (fun s wr => s = .int .i64 0 ∧ w = wr) (fun _ _ => 0)
 case atStart => exact ⟨rfl, rfl⟩
 obtain ⟨rfl, rfl⟩ := hrel
 go_wp2_with (refine wpList_load_mid rfl 137 _ rfl g o rfl (plC x) _ HR.out Tryz.underlying137 rfl HL.out ?_)
 refine HP.out.mono ?_
 rintro e w2 ⟨rfl, hs⟩
 have F := Lib.hid (show StPost w (.int .i64 0) (.returned (.int .i64 0)) w2 from ⟨rfl, hs⟩)
 clear hs
 go_wp2_with fail
 go_ret
 exact F.out
set_option maxHeartbeats 1000000 in
set_option maxRecDepth 100000 in
theorem hpinned_any (h : HdAt w hb g o n cap H) : Calls Tryz.prog 77 #[.pointer (some ⟨hb, 0, none⟩)] w (StPost w (.bool false)) := by
 have c0 : w.cell? ⟨hb, 0, none⟩ = some (.slice (some ⟨g, o, none⟩) n cap) := h.cells.cell 0
 have HI := Lib.hid (hindexF h)
 have HC := Lib.hid (show Calls Tryz.prog 98 #[.slice (some ⟨g, o, none⟩) n cap, .func (.func 99) #[] #[]] w (StPost w (.bool true)) from by
  clear h c0
  go_enter Tryz.func98, Tryz.ntmps98
  go_wp2_with fail
  refine HI.out.mono ?_
  rintro e w2 ⟨rfl, hs⟩
  have F := Lib.hid (show StPost w (.bool true) (.returned (.bool true)) w2 from ⟨rfl, hs⟩)
  clear hs
  go_wp2_with fail
  go_ret
  exact F.out)
 clear h HI
 go_enter Tryz.func77, Tryz.ntmps77
 go_wp2_with fail
 refine HC.out.mono ?_
 rintro e w2 ⟨rfl, hs⟩
 have F := Lib.hid (show StPost w (.bool false) (.returned (.bool false)) w2 from ⟨rfl, hs⟩)
 clear hs
 go_wp2_with fail
 go_ret
 exact F.out
end
end Go.Proofs.YtlcfoeikamkpmaaGreat

namespace Go.Proofs.YtlcfoeikamkpmaaGreat
open Go.RowKit Go.Wh Go.Maps

theorem info_pl : (Tryz.prog.info? 137).map (fun i => (i.zero, i.size, i.bytes)) = some (some (.agg #[.int .i64 0, .slice none 0 0, .slice none 0 0, .slice none 0 0, .slice none 0 0, .int .i64 0, .bool false, .int .i64 0, .bool false, .bool false, .int .i64 0]), 11, 144) := by kernel_rfl
section
variable {w w' : World} {hb g o n cap : Nat} {H : Hd (List Value)}
theorem rowsC_one : ∀ (l : List (Pl (List Value))), (∀ x ∈ l, Fits x) → ∀ u ∈ rowsC l, u.oneCell' = true
 | [], _ => by simp [rowsC]
 | x :: l, h => by
  intro u hu
  rw [rowsC_cons] at hu
  rcases List.mem_append.1 hu with hu | hu
  · exact plC_one (h x (by simp)) u hu
  · exact rowsC_one l (fun y hy => h y (by simp [hy])) u hu
theorem HdAt.reads (h : HdAt w hb g o n cap H) : Reads w 11 (.slice (some ⟨g, o, none⟩) n cap) n (rowsC H.l) := Vec.reads (.inr ⟨g, o, cap, rfl, h.row⟩)
set_option maxHeartbeats 1000000 in
set_option maxRecDepth 100000 in
theorem hclone_any (h : HdAt w hb g o n cap H) : Calls Tryz.prog 102 #[.slice (some ⟨g, o, none⟩) n cap] w (FreshPost w 11 n (rowsC H.l)) := by
 obtain ⟨i0, hi, hz0, hz1, hz2⟩ := info_parts info_pl
 have HN := Lib.hid h.n64
 have HC := Lib.hid (rowsC_one H.l h.fits)
 have hnn := fun W : World => Lib.run_eql_slice_nil (P := Tryz.prog) W 133 137 (some ⟨g, o, none⟩) n cap 0 0 Tryz.underlying133
 have H1 := Lib.hid (h.reads.belowAll ((Below.refl _ _).alloc (Nat.le_refl _) (Obj.cells #[] 137)))
 clear h
 go_enter Tryz.func102, Tryz.ntmps102
 go_wp2_with (at_builtin; refine wpList_append_vec rfl _ _ 133 rfl 137 i0 _ 11 144 Tryz.underlying133 hi hz0 hz1 hz2 rfl (by decide) _ 0 [] rfl (Vec.none_ _ _ _ _) _ n (rowsC H.l) rfl H1.out HC.out (by have := HN.out; simp only [maxLen]; omega) (by have := HN.out; omega) ?_; intro v' w' hv' ho' hb')
 have F := Lib.hid (show FreshPost w 11 n (rowsC H.l) (.returned v') w' from by
  have hbel := (Below.refl w.heap.size w).alloc (Nat.le_refl _) (Obj.cells #[] 137)
  refine ⟨v', rfl, by simpa using hv', hbel.trans (ho'.below (by simp) (fun i hi e => ?_)), fun g hg => ?_⟩
  · have e2 : w.heap.size = i := Option.some.inj e
    omega
  · rcases hb' with e | ⟨g', e, h1, h2⟩
    · have e2 : w.heap.size = g := Option.some.inj (e.symm.trans hg)
      have h3 := ho'.size
      simp at h3
      omega
    · rw [e] at hg
      injection hg with hg
      simp at h1
      omega)
 clear hv' ho' hb' H1 HC
 go_wp2_with fail
 go_ret
 exact F.out
def CoPost (w : World) (n : Nat) (H : Hd (List Value)) (e : Ending) (w' : World) : Prop :=
 ∃ hb g o cap, e = .returned (.pointer (some ⟨hb, 0, none⟩)) ∧ HdAt w' hb g o n cap H ∧ Still w w' ∧ w.heap.size ≤ hb ∧ w.heap.size ≤ g
set_option maxHeartbeats 1000000 in
set_option maxRecDepth 100000 in
theorem hcopy_any (h : HdAt w hb g o n cap H) : Calls Tryz.prog 82 #[.pointer (some ⟨hb, 0, none⟩)] w (CoPost w n H) := by
 obtain ⟨a, ha⟩ : ∃ a, H.at_ = a := ⟨_, rfl⟩
 have HH := Lib.hid h
 have SS := Lib.hid (fun w' (hs : Still w w') => show w'.cell? ⟨hb, 0, none⟩ = some (.slice (some ⟨g, o, none⟩) n cap) ∧ w'.cell? ⟨hb, 1, none⟩ = some (.int .i64 (a : Nat)) from by
  rw [← ha]
  exact ⟨(h.still hs).cells.cell 0, (h.still hs).cells.cell 1⟩)
 have HA := Lib.hid ha
 have HC := Lib.hid (hclone_any (h.still (still_drew w)))
 have F := Lib.hid (fun w2 v tt (hv : Vec w2 11 v n (rowsC H.l)) (hb2 : Below w.drew.heap.size w.drew w2) (hg2 : ∀ g, v.ownBlock = some g → w.drew.heap.size ≤ g ∧ g < w2.heap.size) => show CoPost w n H (.returned (.pointer (some ⟨w2.heap.size, 0, none⟩))) (w2.alloc (.cells #[v, .int .i64 (a : Nat)] tt)) from by
  have hs2 : Still w w2 := (still_drew w).trans (Only.ofBelow hb2)
  obtain ⟨g2, o2, c2, rfl, hva⟩ := hv.form HH.out.pos
  have hg := hg2 g2 rfl
  have hz := hs2.size
  have hzd : w.drew.heap.size = w.heap.size := rfl
  have hst : Still w2 (w2.alloc (.cells #[.slice (some ⟨g2, o2, none⟩) n c2, .int .i64 (a : Nat)] tt)) := (Still.refl w2).alloc _
  refine ⟨w2.heap.size, g2, o2, c2, rfl, ⟨?_, ?_, HH.out.len, HH.out.fits, HH.out.pos, HH.out.n64, HH.out.lt, by omega⟩, hs2.trans hst, by omega, by omega⟩
  · have := cellsAt_new w2 [.slice (some ⟨g2, o2, none⟩) n c2, .int .i64 (a : Nat)] tt
    rw [HA.out]
    exact this
  · exact hva.block (hst.block g2 (by omega) fun e => e))
 clear h ha
 go_enter Tryz.func82, Tryz.ntmps82
 go_wp2_with fail
 go_region_held3 (fun w' => w'.cell? ⟨hb, 0, none⟩ = some (.slice (some ⟨g, o, none⟩) n cap) ∧ w'.cell? ⟨hb, 1, none⟩ = some (.int .i64 (a : Nat))) (first | exact SS.out _ (still_drew _) | exact SS.out _ (by assumption) | exact SS.out _ (Only.alloc hs3 _))
  (first | (go_at_call 102; (with_reducible refine HC.out.mono ?_); rintro e w2 ⟨v, rfl, hv, hb2, hg2⟩; have hs3 : Still w w2 := (still_drew w).trans (Only.ofBelow hb2); obtain ⟨va, vc, rfl⟩ := hv.form'; have HF := Lib.hid (fun tt => F.out w2 _ tt hv hb2 hg2)))
 clear hv hb2 hg2 hs3 HC SS F
 go_wp2_with fail
 go_ret
 exact HF.out _
end
end Go.Proofs.YtlcfoeikamkpmaaGreat

namespace Go.Proofs.YtlcfoeikamkpmaaGreat
open Go.RowKit Go.Wh Go.Maps

theorem plC_sw (x : Pl (List Value)) (v : List Value) : plC (x.swap v) = .int .i64 x.k :: (v ++ [.bool x.has, .bool x.bit, .int .i64 0]) := rfl
theorem rows_setV (v : List Value) (hv : v.length = 7) : ∀ (i : Nat) (l : List (Pl (List Value))) (x : Pl (List Value)), (∀ y ∈ l, Fits y) → l[i]? = some x → rowsC (modI (·.swap v) i l) = (rowsC l).take (i * 11 + 1) ++ v ++ (rowsC l).drop (i * 11 + 8)
 | _, [], _, _, h => by simp at h
 | 0, y :: l, x, hf, h => by
  obtain ⟨k, u, a, b⟩ := y
  have h7 := (hf _ (by simp : (⟨k, u, a, b⟩ : Pl (List Value)) ∈ _)).1
  show rowsC (Pl.swap ⟨k, u, a, b⟩ v :: l) = _
  rw [rowsC_cons, rowsC_cons, plC_sw]
  match u, h7 with
  | [u0, u1, u2, u3, u4, u5, u6], _ => simp [plC]
 | i + 1, y :: l, x, hf, h => by
  have ih := rows_setV v hv i l x (fun z hz => hf z (by simp [hz])) (by simpa using h)
  have hl := plC_length (hf y (by simp))
  show rowsC (y :: modI _ i l) = _
  rw [rowsC_cons, rowsC_cons, ih, show (i + 1) * 11 + 1 = (plC y).length + (i * 11 + 1) by rw [hl, Nat.add_mul]; omega, show (i + 1) * 11 + 8 = (plC y).length + (i * 11 + 8) by rw [hl, Nat.add_mul]; omega, List.take_length_add_append, List.drop_length_add_append]
  simp
section
variable {w w' : World} {hb g o n cap : Nat} {H : Hd (List Value)}
theorem HdAt.there (h : HdAt w hb g o n cap H) {i p m : Nat} (hi : i < n) (hp : p + m ≤ 11) : w.there g (o + (i * 11 + p)) m := fun j hj => by
 have hl := h.row.len
 have hij : i * 11 + (p + j) < n * 11 := by
  have : (i + 1) * 11 ≤ n * 11 := Nat.mul_le_mul_right 11 (by omega)
  rw [Nat.add_mul] at this
  omega
 rw [show o + (i * 11 + p) + j = o + (i * 11 + (p + j)) by omega]
 refine ⟨?_, h.row.free _ hij⟩
 rw [h.row.cell _ hij, List.getElem?_eq_getElem (by omega)]
 rfl
theorem HdAt.valSet (h : HdAt w hb g o n cap H) {i : Nat} {x : Pl (List Value)} (hx : H.l[i]? = some x) (v : List Value) (hv : v.length = 7) (h1 : ∀ u ∈ v, u.oneCell' = true) : HdAt (w.setCells g (o + (i * 11 + 1)) v) hb g o n cap ⟨modI (·.swap v) i H.l, H.at_⟩ := by
 have hi := (List.getElem?_eq_some_iff.1 hx).1
 rw [h.len] at hi
 have hle : (i + 1) * 11 ≤ n * 11 := Nat.mul_le_mul_right 11 (by omega)
 rw [Nat.add_mul] at hle
 have hlr : (rowsC H.l).length = n * 11 := h.row.len
 refine ⟨h.cells.only (setCells_only w g _ v) fun e => h.ne e, ?_, by rw [modI_length]; exact h.len, fits_mod (fun y hy => ⟨hv, h1⟩) i _ h.fits, h.pos, h.n64, h.lt, h.ne⟩
 have hp := h.row.put (i * 11 + 1) v (by omega)
 rw [rows_setV v hv i H.l x h.fits hx]
 have e : (rowsC H.l).take (i * 11 + 1) ++ v ++ (rowsC H.l).drop (i * 11 + 1 + v.length) = (rowsC H.l).take (i * 11 + 1) ++ v ++ (rowsC H.l).drop (i * 11 + 8) := by rw [hv]
 rw [← e]
 exact hp
end
end Go.Proofs.YtlcfoeikamkpmaaGreat

namespace Go.Proofs.YtlcfoeikamkpmaaGreat
open Go.RowKit Go.Wh Go.Maps

section
variable {w w' : World} {hb g o n cap : Nat} {H : Hd (List Value)}
def GePost (w : World) (hb g o n cap : Nat) (H : Hd (List Value)) (k : Int) (e : Ending) (w' : World) : Prop :=
 (H.look k = none ∧ e = .returned (.tuple #[.agg #[.slice none 0 0, .slice none 0 0, .slice none 0 0, .slice none 0 0, .int .i64 0, .bool false, .int .i64 0], .bool false]) ∧ Still w w') ∨ ∃ v, H.look k = some v ∧ e = .returned (.tuple #[.agg v.toArray, .bool true]) ∧ HdAt w' hb g o n cap (H.touch k) ∧ Only (fun b => b = g) w w'
theorem look_at {k : Int} {x : Pl (List Value)} (hx : H.l[fdI (isK k) H.l]? = some x) : H.look k = some x.v := by
 unfold Hd.look
 rw [hx]
 rfl
theorem look_no {k : Int} (hl : H.l.length ≤ fdI (isK k) H.l) : H.look k = none := by
 unfold Hd.look
 rw [List.getElem?_eq_none hl]
 rfl
set_option maxHeartbeats 1000000 in
set_option maxRecDepth 100000 in
theorem hget_any (h : HdAt w hb g o n cap H) (k : Int) : Calls Tryz.prog 72 #[.pointer (some ⟨hb, 0, none⟩), .int .i64 k] w (GePost w hb g o n cap H k) := by
 have HH := Lib.hid h
 have HS := Lib.hid (fun tt => (Still.refl w).alloc (.cells #[.slice none 0 0, .slice none 0 0, .slice none 0 0, .slice none 0 0, .int .i64 0, .bool false, .int .i64 0] tt))
 have HZ := Lib.hid (fun tt => cellsAt_new w frZ tt)
 clear h
 go_enter Tryz.func72, Tryz.ntmps72
 go_upto_region 1 with fail
 have hs0 := HS.out 100
 have hz0 := HZ.out 100
 change cellsAt (w.alloc (.cells #[.slice none 0 0, .slice none 0 0, .slice none 0 0, .slice none 0 0, .int .i64 0, .bool false, .int .i64 0] 100)) w.heap.size frZ at hz0
 clear HS HZ
 generalize (w.alloc (.cells #[.slice none 0 0, .slice none 0 0, .slice none 0 0, .slice none 0 0, .int .i64 0, .bool false, .int .i64 0] 100)) = w0 at *
 obtain ⟨b, hb0⟩ : ∃ b, w.heap.size = b := ⟨_, rfl⟩
 rw [hb0] at hz0
 rw [hb0]
 have H0 := Lib.hid (And.intro (HH.out.still hs0) (And.intro hs0 (And.intro hz0 hb0)))
 have HF := Lib.hid (hfind_any (HH.out.still hs0) k)
 obtain ⟨i, hi⟩ : ∃ i, fdI (isK k) H.l = i := ⟨_, rfl⟩
 have HI := Lib.hid hi
 rw [hi] at HF
 clear hs0 hz0 hb0 hi
 by_cases hin : i < n
 rotate_left
 · have HFN := Lib.hid (show Calls _ _ _ w0 (SamePost w0 (.pointer none)) from by
    have := HF.out
    unfold plP at this
    rw [if_neg hin] at this
    exact this)
   have F := Lib.hid (fun wf (ho : Only (fun c => c = b) w0 wf) => show GePost w hb g o n cap H k (.returned (.tuple #[.agg #[.slice none 0 0, .slice none 0 0, .slice none 0 0, .slice none 0 0, .int .i64 0, .bool false, .int .i64 0], .bool false])) wf from
    .inl ⟨look_no (by rw [HI.out, HH.out.len]; omega), rfl, H0.out.2.1.andThen ho fun c hc e => by have := H0.out.2.2.2; omega⟩)
   clear hin HF
   go_wp2_with fail
   refine HFN.out.mono ?_
   rintro e w1 ⟨rfl, rfl⟩
   go_wp2_with (first
    | (refine wpList_loadAgg rfl 100 _ rfl b #[.slice none 0 0, .slice none 0 0, .slice none 0 0, .slice none 0 0, .int .i64 0, .bool false, .int .i64 0] rfl H0.out.2.2.1 _ Tryz.underlying100 rfl size_fr ?_)
    | (refine wpList_storeAgg rfl 100 _ _ rfl b #[.slice none 0 0, .slice none 0 0, .slice none 0 0, .slice none 0 0, .int .i64 0, .bool false, .int .i64 0] rfl rfl H0.out.2.2.1 size_fr rfl rfl ?_; intro wf hcf hof hzf; have HW := Lib.hid hcf; have F2 := Lib.hid (F.out wf hof); clear hcf hof hzf))
   have z0 : wf.cell? ⟨b, 0, none⟩ = some (.slice none 0 0) := HW.out.cell 0
   have z1 : wf.cell? ⟨b, 1, none⟩ = some (.slice none 0 0) := HW.out.cell 1
   have z2 : wf.cell? ⟨b, 2, none⟩ = some (.slice none 0 0) := HW.out.cell 2
   have z3 : wf.cell? ⟨b, 3, none⟩ = some (.slice none 0 0) := HW.out.cell 3
   have z4 : wf.cell? ⟨b, 4, none⟩ = some (.int .i64 0) := HW.out.cell 4
   have z5 : wf.cell? ⟨b, 5, none⟩ = some (.bool false) := HW.out.cell 5
   have z6 : wf.cell? ⟨b, 6, none⟩ = some (.int .i64 0) := HW.out.cell 6
   exact bodyPost_ret (v := .tuple #[.agg #[.slice none 0 0, .slice none 0 0, .slice none 0 0, .slice none 0 0, .int .i64 0, .bool false, .int .i64 0], .bool false]) (by simp [results, Tryz.results72, go_sem, z0, z1, z2, z3, z4, z5, z6]) rfl F2.out
 obtain ⟨x, hx⟩ : ∃ x, H.l[i]? = some x := ⟨_, List.getElem?_eq_getElem (by rw [HH.out.len]; exact hin)⟩
 have hf := HH.out.fits x (List.mem_of_getElem? hx)
 have HX := Lib.hid (And.intro hx hf)
 have HFY := Lib.hid (show Calls _ _ _ w0 (SamePost w0 (.pointer (some ⟨g, o + i * 11, none⟩))) from by
  have := HF.out
  unfold plP at this
  rw [if_pos hin] at this
  exact this)
 have p9 : w0.cell? ⟨g, o + i * 11 + 9, none⟩ = some (.bool x.bit) := (H0.out.1.tests hx).2.2.1
 have f9 : w0.frozen? ⟨g, o + i * 11 + 9, none⟩ = false := by
  rw [Nat.add_assoc]
  exact (H0.out.1.there (i := i) (p := 9) (m := 1) hin (by omega) 0 (by omega)).2
 have HT := Lib.hid (show HdAt (w0.setCell ⟨g, o + i * 11 + 9, none⟩ (.bool true)) hb g o n cap (H.touch k) from by
  have := H0.out.1.bitSet hx true (f := Pl.on) fun y => rfl
  unfold Hd.touch
  rw [HI.out, Nat.add_assoc]
  exact this)
 have HO := Lib.hid (setCell_only w0 ⟨g, o + i * 11 + 9, none⟩ (.bool true))
 have hgb : g ≠ b := by
  have h1 := HH.out.row.lt (by have := HH.out.pos; have := HH.out.row.le; omega)
  have := H0.out.2.2.2
  omega
 have HGB := Lib.hid hgb
 clear hin hx hf HF hgb
 go_wp2_with fail
 refine HFY.out.mono ?_
 rintro e w1 ⟨rfl, rfl⟩
 go_upto_region 5 with fail
 generalize w1.setCell ⟨g, o + i * 11 + 9, none⟩ (.bool true) = w2 at *
 clear p9 f9
 have hxt : (H.touch k).l[i]? = some x.on := by
  unfold Hd.touch
  rw [HI.out, modI_set _ i _ x HX.out.1, List.getElem?_set_self (by have := (List.getElem?_eq_some_iff.1 HX.out.1).1; exact this)]
 have HRV := Lib.hid (HT.out.rangeV hxt)
 have HZ2 := Lib.hid (H0.out.2.2.1.only HO.out fun e => HGB.out (show b = g from e).symm)
 have hgf := HGB.out
 have F := Lib.hid (fun wf (ho : Only (fun c => c = b) w2 wf) => show GePost w hb g o n cap H k (.returned (.tuple #[.agg x.v.toArray, .bool true])) wf from by
  have hbl : b < w1.heap.size := H0.out.2.2.1.lt
  refine .inr ⟨x.v, look_at (by rw [HI.out]; exact HX.out.1), rfl, HT.out.only ho (fun e => ?_) (fun e => HGB.out e), ?_⟩
  · have h1 := HH.out.cells.lt
    have := H0.out.2.2.2
    have e' : hb = b := e
    omega
  · have h1 : Only (fun c => c = g) w w2 := (H0.out.2.1.mono fun _ e => e.elim).trans HO.out
    exact h1.andThen ho fun c hc e => by
     have := H0.out.2.2.2
     have e' : c = b := e
     omega)
 obtain ⟨kk, v, a, c⟩ := x
 obtain ⟨h7, h1⟩ := HX.out.2
 match v, h7, h1 with
 | [v0, v1, v2, v3, v4, v5, v6], _, h1 =>
  have HONE := Lib.hid (show (#[v0, v1, v2, v3, v4, v5, v6] : Array Value).toList.all (·.oneCell') = true from by
   rw [List.all_eq_true]
   exact h1)
  change Hid (w2.rangeAt g (o + i * 11 + 1) [v0, v1, v2, v3, v4, v5, v6]) at HRV
  clear h1 hxt hgf
  go_wp2_with (first
   | (refine wpList_load_mid rfl 100 _ rfl g (o + i * 11 + 1) rfl [v0, v1, v2, v3, v4, v5, v6] _ HRV.out Tryz.underlying100 rfl size_fr ?_)
   | (refine wpList_storeAgg rfl 100 _ _ rfl b #[v0, v1, v2, v3, v4, v5, v6] rfl rfl HZ2.out size_fr rfl HONE.out ?_; intro wf hcf hof hzf; have HW := Lib.hid hcf; have F2 := Lib.hid (F.out wf hof); clear hcf hof hzf))
  have z0 : wf.cell? ⟨b, 0, none⟩ = some v0 := HW.out.cell 0
  have z1 : wf.cell? ⟨b, 1, none⟩ = some v1 := HW.out.cell 1
  have z2 : wf.cell? ⟨b, 2, none⟩ = some v2 := HW.out.cell 2
  have z3 : wf.cell? ⟨b, 3, none⟩ = some v3 := HW.out.cell 3
  have z4 : wf.cell? ⟨b, 4, none⟩ = some v4 := HW.out.cell 4
  have z5 : wf.cell? ⟨b, 5, none⟩ = some v5 := HW.out.cell 5
  have z6 : wf.cell? ⟨b, 6, none⟩ = some v6 := HW.out.cell 6
  exact bodyPost_ret (v := .tuple #[.agg #[v0, v1, v2, v3, v4, v5, v6], .bool true]) (by simp [results, Tryz.results72, go_sem, z0, z1, z2, z3, z4, z5, z6]) rfl F2.out
end
end Go.Proofs.YtlcfoeikamkpmaaGreat
