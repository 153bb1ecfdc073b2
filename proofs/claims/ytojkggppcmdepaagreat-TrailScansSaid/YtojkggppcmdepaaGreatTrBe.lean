/- A disk that is new; entries that are said by numbers. Conditions: none but those of the calls. -/
import Derived.Test.YtojkggppcmdepaaGreatTrOp
namespace Go.Proofs.YtojkggppcmdepaaGreat
open Go.RowKit Go.Wh Go.Maps

def zeroT (n : Nat) : List (List Int) := List.replicate n (List.replicate 64 0)
theorem newx_any (w : World) (n : Nat) (hn : n ≤ 2000) {N : Int} (hN : (n : Int) = N) :
    Calls Tryz.prog 13 #[.int .i64 N] w (fun e w' => ∃ d, e = .returned (.pointer (some ⟨d, 0, none⟩)) ∧ DkX (fun g => w.heap.size ≤ g ∧ g < w'.heap.size) d (zeroT n) w' ∧ Still w w') := by
  subst hN
  refine (new_any w n hn).mono fun e w' h => ?_
  obtain ⟨d, mb, rfl, h1, h2, tv, vs, hd, hs, ht, hv⟩ := h
  have hlt := hd.lt
  exact ⟨d, rfl, ⟨⟨tv, mb, vs, hd, ⟨h1, hlt.1⟩, ⟨h2, hlt.2⟩, fun g hg => ⟨ht g hg, (hd.td g hg).2.2⟩, fun v hv' g hg => ⟨hv v hv' g hg, (hd.ia v hv' g hg).2.2.2⟩⟩, fun g hg => hg.2, fun l hl => by rw [(List.mem_replicate.1 hl).2]; exact Byt.zeros 64, by unfold zeroT; rw [List.length_replicate]; exact hn⟩, hs⟩
/-- Tiles that say nothing. -/
theorem tls_zero {m a n : Nat} (h : a + n ≤ m) : tls (zeroT m) a n = zeroT n := by
  unfold tls zeroT
  rw [List.drop_replicate, List.take_replicate]
  congr 1
  omega
theorem readB_zero (n : Nat) : readB (zeroT n) = [] := by
  cases n with
  | zero => rfl
  | succ n =>
    show readB (List.replicate 64 0 :: zeroT n) = []
    rw [readB_cons]
    rfl
theorem scanB_nil : scanB (([] : List Int).length + 1) [] = ([], 0) := rfl
theorem tileB_nil (i : Nat) : tileB [] i = List.replicate 64 0 := by
  unfold tileB partB
  simp
theorem layB_zero {m a : Nat} : ∀ (n : Nat), a + n ≤ m → layB (zeroT m) a [] n = zeroT m
  | 0, _ => rfl
  | n + 1, h => by
    unfold layB
    rw [layB_zero n (by omega), tileB_nil]
    unfold zeroT
    apply List.ext_getElem?
    intro i
    rw [List.getElem?_set]
    split
    · rename_i hi
      subst hi
      have hi : a + n < m := by omega
      simp [hi]
    · rfl
/-- Entries by numbers: their kind, who. -/
def nE (k t : Int) : PE := ⟨k, t, 0, 0, 0, 0, 0, 0, 0, 0, [], [], [], [], [], []⟩
theorem nE_may {k t : Int} (h : 1 ≤ k ∧ k ≤ 10) (ht : 0 ≤ t ∧ t < 256) : (nE k t).may = true := by
  unfold PE.may nE
  have p1 : (256 : Int) ^ 1 = 256 := rfl
  simp only [Bool.and_eq_true, fitsB_cons, decide_eq_true_eq, p1]
  exact ⟨⟨⟨⟨⟨⟨⟨⟨⟨⟨⟨⟨h.1, h.2⟩, ⟨ht, by decide⟩⟩, by decide⟩, by decide⟩, by decide⟩, by decide⟩, rfl⟩, rfl⟩, rfl⟩, rfl⟩, rfl⟩, rfl⟩
theorem nE_len (k t : Int) : (frameB (nE k t)).length = 25 := by
  rw [frameB_length, encB_short _ rfl rfl rfl rfl]
  rfl
theorem nE_is (w : World) (P : Nat → Prop) (k t : Int) : EIs w P (nE k t) (.slice none 0 0) (.slice none 0 0) (.slice none 0 0) (.slice none 0 0) (.slice none 0 0) (.slice none 0 0) := EIs.none _ _ _ _ _ _ _ _ _ _
theorem nE_not (t : Int) : (nE 0 t).may = false := by
  unfold PE.may nE
  simp

section
variable {A B Q : Nat → Prop} {w : World} {t d at_ n st : Nat} {es : List PE} {T : List (List Int)} {e : PE} {ov nv mv lv dv pv : Value}
theorem ap_ok (h : TlX B t d at_ n es st w) (he : EIs w Q e ov nv mv lv dv pv) (hm : e.may = true) (hr : (streamB es).length + (frameB e).length ≤ n * 63) {N : Int} (hN : ((es.length + 1 : Nat) : Int) = N) :
    Calls Tryz.prog 17 #[.pointer (some ⟨t, 0, none⟩), .agg (eV e ov nv mv lv dv pv)] w (fun en w' => en = .returned (.tuple #[.int .i64 N, .int .i64 0]) ∧ TlX (Newer B w w') t d at_ n (es ++ [e]) st w' ∧ Only B w w') := by
  refine (append_any B w t d at_ n es st e ov nv mv lv dv pv h he).mono fun en w' hp => ?_
  obtain ⟨es', a, k, rfl, h1, h2, h3⟩ := hp
  rcases h3 with ⟨h, _⟩ | ⟨_, h, _⟩ | ⟨_, _, rfl, rfl, rfl⟩
  · rw [hm] at h; cases h
  · omega
  · exact ⟨by rw [hN], h1, h2⟩
theorem ap_full (h : TlX B t d at_ n es st w) (he : EIs w Q e ov nv mv lv dv pv) (hm : e.may = true) (hr : n * 63 < (streamB es).length + (frameB e).length) :
    Calls Tryz.prog 17 #[.pointer (some ⟨t, 0, none⟩), .agg (eV e ov nv mv lv dv pv)] w (fun en w' => en = .returned (.tuple #[.int .i64 0, .int .i64 5]) ∧ TlX (Newer B w w') t d at_ n es st w' ∧ Only B w w') := by
  refine (append_any B w t d at_ n es st e ov nv mv lv dv pv h he).mono fun en w' hp => ?_
  obtain ⟨es', a, k, rfl, h1, h2, h3⟩ := hp
  rcases h3 with ⟨h, _⟩ | ⟨_, h, rfl, rfl, rfl⟩ | ⟨_, h, _⟩
  · rw [hm] at h; cases h
  · exact ⟨rfl, h1, h2⟩
  · omega
theorem ap_bad (h : TlX B t d at_ n es st w) (he : EIs w Q e ov nv mv lv dv pv) (hm : e.may = false) :
    Calls Tryz.prog 17 #[.pointer (some ⟨t, 0, none⟩), .agg (eV e ov nv mv lv dv pv)] w (fun en w' => en = .returned (.tuple #[.int .i64 0, .int .i64 1]) ∧ TlX (Newer B w w') t d at_ n es st w' ∧ Only B w w') := by
  refine (append_any B w t d at_ n es st e ov nv mv lv dv pv h he).mono fun en w' hp => ?_
  obtain ⟨es', a, k, rfl, h1, h2, h3⟩ := hp
  rcases h3 with ⟨_, rfl, rfl, rfl⟩ | ⟨h, _⟩ | ⟨h, _⟩
  · exact ⟨rfl, h1, h2⟩
  · rw [hm] at h; cases h
  · rw [hm] at h; cases h
/-- What an opening leaves where it is known which entries there are. -/
def OqPost (A : Nat → Prop) (w : World) (d at_ n : Nat) (T : List (List Int)) (es : List PE) (en : Ending) (w' : World) : Prop :=
  ∃ (t : Nat) (la : Option Addr) (lc : Nat) (A' B C : Nat → Prop), en = .returned (.tuple #[.pointer (some ⟨t, 0, none⟩), .slice la es.length lc, .int .i64 0]) ∧
    DkX A' d T w' ∧ TlX B t d at_ n es es.length w' ∧ Ents w' C (.slice la es.length lc) es ∧ Only A w w' ∧
    (∀ g, A' g → A g ∨ w.heap.size ≤ g) ∧ (∀ g, B g → w.heap.size ≤ g) ∧ (∀ g, C g → w.heap.size ≤ g ∧ g < w'.heap.size) ∧ (∀ g, A' g → ¬ B g) ∧ (∀ g, A' g → ¬ C g) ∧ ∀ g, B g → ¬ C g
theorem open_q {T' : List (List Int)} (hd : DkX A d T w) (hn : at_ + n ≤ T.length) (hk : n ≤ 1000) (he : (scanB ((readB (tls T at_ n)).length + 1) (readB (tls T at_ n))).1 = es) (hT : layB T at_ (streamB es) n = T') {a k : Int} (ha : (at_ : Int) = a) (hkk : (n : Int) = k) :
    Calls Tryz.prog 15 #[.pointer (some ⟨d, 0, none⟩), .int .i64 a, .int .i64 k] w (OqPost A w d at_ n T' es) := by
  subst ha hkk
  refine (open_any hd hn hk).mono fun en w' hp => ?_
  obtain ⟨t, lv, es', A', B, C, rfl, h1, h2, h3, h4, h5⟩ := hp
  rw [he] at h1
  subst h1
  obtain ⟨la, lc, rfl⟩ := h4.form
  rw [hT] at h2
  exact ⟨t, la, lc, A', B, C, rfl, h2, h3, h4, h5⟩
theorem open_zero {m : Nat} (hd : DkX A d (zeroT m) w) (hn : at_ + n ≤ m) (hk : n ≤ 1000) {a k : Int} (ha : (at_ : Int) = a) (hkk : (n : Int) = k) :
    Calls Tryz.prog 15 #[.pointer (some ⟨d, 0, none⟩), .int .i64 a, .int .i64 k] w (OqPost A w d at_ n (zeroT m) []) :=
  open_q hd (by unfold zeroT; rw [List.length_replicate]; exact hn) hk (by rw [tls_zero hn, readB_zero]; rfl) (layB_zero n hn) ha hkk
theorem layB_same : ∀ {j : Nat} {T : List (List Int)} {a : Nat} {S : List Int} {n : Nat}, a + n ≤ T.length → j ≤ n → layB (layB T a S n) a S j = layB T a S n
  | 0, _, _, _, _, _, _ => rfl
  | j + 1, T, a, S, n, hl, hj => by
    show (layB (layB T a S n) a S j).set (a + j) (tileB S j) = _
    rw [layB_same hl (by omega)]
    apply List.ext_getElem?
    intro i
    rw [List.getElem?_set]
    split
    · rename_i hi
      subst hi
      rw [layB_get hl (by omega), if_pos (by rw [layB_length]; omega)]
    · rfl
theorem open_laid (hd : DkX A d (layB T at_ (streamB es) n) w) (hn : at_ + n ≤ T.length) (hk : n ≤ 1000) (hm : ∀ e ∈ es, e.may = true) (hs : (streamB es).length ≤ n * 63) {a k : Int} (ha : (at_ : Int) = a) (hkk : (n : Int) = k) :
    Calls Tryz.prog 15 #[.pointer (some ⟨d, 0, none⟩), .int .i64 a, .int .i64 k] w (OqPost A w d at_ n (layB T at_ (streamB es) n) es) :=
  open_q hd (by rw [layB_length]; exact hn) hk (scan_laid hn hm hs) (layB_same hn (Nat.le_refl _)) ha hkk
theorem stable_x (h : TlX B t d at_ n es st w) {N : Int} (hN : (st : Int) = N) : Calls Tryz.prog 30 #[.pointer (some ⟨t, 0, none⟩)] w (SamePost w (.int .i64 N)) := by
  subst hN
  obtain ⟨sv, h1, -, -⟩ := h.tl
  exact stable_any w t d at_ n (streamB es) sv es.length st h1
theorem count_x (h : TlX B t d at_ n es st w) {N : Int} (hN : (es.length : Int) = N) : Calls Tryz.prog 29 #[.pointer (some ⟨t, 0, none⟩)] w (SamePost w (.int .i64 N)) := by
  subst hN
  obtain ⟨sv, h1, -, -⟩ := h.tl
  exact count_any w t d at_ n (streamB es) sv es.length st h1
theorem left_x (h : TlX B t d at_ n es st w) {N : Int} (hN : 63 * (n : Int) - ((streamB es).length : Int) = N) : Calls Tryz.prog 31 #[.pointer (some ⟨t, 0, none⟩)] w (StPost w (.int .i64 N)) := by
  subst hN
  obtain ⟨sv, h1, -, -⟩ := h.tl
  exact left_any w t d at_ n (streamB es) sv es.length st h1 h.n_le (by have := h.len; have := h.n_le; omega)
end
end Go.Proofs.YtojkggppcmdepaaGreat
