/- What is read of tiles of which some are old: plain. No program. No conditions. No page is on the disk ahead of its notes, wherever a crash comes: plain. No program. No conditions. A disk that is armed, crashed, started again, read: what stands by colours. Conditions: it lies in memory. The document's reader of tiles: a number of four bytes, a text that is padded. Conditions: they lie in memory. The document's reader of a cell that is noughts, or a row. Conditions: it lies in memory. The document's reader of two tiles: their number, their bytes. Conditions: they lie in memory; their numbers are unlike, or no greater than a page's may be. The document's reader of a page's tiles, as far as a law asks. Conditions: they lie in memory; they are torn, or a page of rows. No page is on the disk ahead of its notes, wherever a crash comes: the law's walk. Conditions: two slices of bytes that lie in memory, a byte. Rows of bytes that came in, empty or not. Conditions: it can be read as data. PoolAhead: for every input the law returns true and its arguments read as before. No conditions beyond the row's. -/
import Derived.Test.YtlcfoeikamkpmaaGreatPr28
import Derived.BigQuiet
import Derived.Deep.Slices
import Derived.Deep.Fields
import Derived.ChangeSame
namespace Go.Proofs.YtlcfoeikamkpmaaGreat
open Go.Wh

theorem mix_read (S : List Int) (p : Nat) (hp : p ≤ S.length) : ∀ (L : List (List Int)) (i : Nat), S.length ≤ (i + L.length) * 63 → (∀ j l, L[j]? = some l → l = tileB (S.take p) (i + j) ∨ l = tileB S (i + j)) → ∃ k, readB L = (S.drop (i * 63)).take k ∧ p ≤ i * 63 + k
 | [], i, h, _ => ⟨0, by rw [List.take_zero]; rfl, by simp at h; omega⟩
 | s :: L, i, h, hm => by
  have hlen : (S.take p).length = p := by rw [List.length_take]; omega
  have key : ∀ part : List Int, part.length ≤ 63 → s = ((part.length : Nat) : Int) :: (part ++ List.replicate (63 - part.length) 0) → readB (s :: L) = part ++ (if part.length < 63 then [] else readB L) := fun part hpl hs => by
   subst hs
   rw [readB_cons, List.headD_cons, if_neg (by omega), Int.toNat_natCast, List.drop_succ_cons, List.drop_zero, List.take_left' rfl]
   congr 1
   by_cases h63 : part.length < 63
   · rw [if_pos (by omega), if_pos h63]
   · rw [if_neg (by omega), if_neg h63]
  have full : ∀ part : List Int, part = (S.drop (i * 63)).take 63 → part.length = 63 → s = ((part.length : Nat) : Int) :: (part ++ List.replicate (63 - part.length) 0) → ∃ k, readB (s :: L) = (S.drop (i * 63)).take k ∧ p ≤ i * 63 + k := fun part hpp hpl hs => by
   obtain ⟨k, h1, h2⟩ := mix_read S p hp L (i + 1) (by simp only [List.length_cons] at h; omega) fun j l hj => by
    have := hm (j + 1) l (by rw [List.getElem?_cons_succ]; exact hj)
    rw [show i + (j + 1) = i + 1 + j by omega] at this
    exact this
   refine ⟨63 + k, ?_, by omega⟩
   rw [key part (by omega) hs, if_neg (by omega), h1, hpp, show (i + 1) * 63 = i * 63 + 63 by omega, ← List.drop_drop, List.take_add]
  rcases hm 0 s (by rw [List.getElem?_cons_zero]) with hs | hs
  · rw [Nat.add_zero] at hs
    have hpl := partB_length (S.take p) i
    rw [hlen] at hpl
    have hpe : partB (S.take p) i = ((S.drop (i * 63)).take (p - i * 63)).take 63 := by
     unfold partB
     rw [List.drop_take]
    by_cases h63 : (partB (S.take p) i).length < 63
    · refine ⟨p - i * 63, ?_, by omega⟩
      rw [key (partB (S.take p) i) (by omega) hs, if_pos h63, List.append_nil, hpe, List.take_of_length_le]
      rw [List.length_take]
      omega
    · refine full (partB (S.take p) i) ?_ (by omega) hs
      rw [hpe, List.take_take]
      congr 1
      omega
  · rw [Nat.add_zero] at hs
    have hpl := partB_length S i
    by_cases h63 : (partB S i).length < 63
    · refine ⟨S.length, ?_, by omega⟩
      rw [key (partB S i) (by omega) hs, if_pos h63, List.append_nil]
      unfold partB
      rw [List.take_of_length_le (by rw [List.length_drop]; omega), List.take_of_length_le (by rw [List.length_drop]; omega)]
    · exact full (partB S i) rfl (by omega) hs
def Mix (n : Nat) (S0 S : List Int) (D : PDk) : Prop := D.T.length = n ∧ (∀ j l, D.T[j]? = some l → l = tileB S0 j ∨ l = tileB S j) ∧ ∀ j l, D.was j = some l → l = tileB S0 j ∨ l = tileB S j
theorem Mix.laid {n : Nat} {S0 S : List Int} {D : PDk} (h : Mix n S0 S D) (i : Nat) : Mix n S0 S (D.laid i (tileB S i)) := by
 refine ⟨by show (D.T.set _ _).length = n; rw [List.length_set]; exact h.1, fun j l hj => ?_, fun j l hj => ?_⟩
 · have hj' : (D.T.set i (tileB S i))[j]? = some l := hj
   rw [List.getElem?_set] at hj'
   split at hj'
   · rename_i e
     split at hj'
     · injection hj' with hj'
       exact .inr (by rw [← hj', e])
     · cases hj'
   · exact h.2.1 j l hj'
 · have hj' : (D.wet i).was j = some l := hj
   unfold PDk.wet at hj'
   dsimp only at hj'
   split at hj'
   · exact h.2.2 j l hj'
   · by_cases hji : j = i
     · subst hji
       rw [upd_same] at hj'
       exact h.2.1 j l hj'
     · rw [upd_other _ _ hji] at hj'
       exact h.2.2 j l hj'
theorem Mix.crash {n : Nat} {S0 S : List Int} {D : PDk} (h : Mix n S0 S D) (mask : List Int) : Mix n S0 S (D.crash mask) := by
 have key : ∀ i, i ≤ D.loose.length → ∀ j l, (crashN D.was mask D.loose D.T i)[j]? = some l → l = tileB S0 j ∨ l = tileB S j := fun i => by
  induction i with
  | zero => intro _ j l hj; exact h.2.1 j l hj
  | succ i ih =>
   intro hi j l hj
   unfold crashN at hj
   split at hj
   · exact ih (by omega) j l hj
   · rw [List.getElem?_set] at hj
     split at hj
     · rename_i e
       split at hj
       · injection hj with hj
         have hm : D.loose.getD i 0 ∈ D.loose := by
          rw [List.getD_eq_getElem?_getD, List.getElem?_eq_getElem (by omega)]
          exact List.getElem_mem _
         obtain ⟨o, ho⟩ := Option.isSome_iff_exists.1 (looseL_mem.1 hm).2
         rw [ho] at hj
         have := h.2.2 _ _ ho
         rw [e] at this
         rw [← hj]
         exact this
       · cases hj
     · exact ih (by omega) j l hj
 exact ⟨by show (crashN _ _ _ _ _).length = n; rw [crashN_length]; exact h.1, key _ (Nat.le_refl _), fun j l e => by cases e⟩
theorem Mix.done {n : Nat} {S0 S : List Int} {D : PDk} (h : Mix n S0 S D) : Mix n S0 S D.done.2 := by
 unfold PDk.done
 cases hp : D.plan with
 | none => exact h
 | some p =>
  dsimp only
  split
  · exact h.crash _
  · exact h
theorem Mix.clN {n : Nat} {S0 S : List Int} {D : PDk} (h : Mix n S0 S D) : ∀ (i : Nat), Mix n S0 S (clN D 0 S i).2.1
 | 0 => h
 | i + 1 => by
  have ih := Mix.clN h i
  unfold Go.Proofs.YtlcfoeikamkpmaaGreat.clN
  split
  · exact ih
  · split
    · exact ih
    · have := (ih.laid (0 + i)).done
      rw [Nat.zero_add] at this ⊢
      exact this
theorem Mix.sync {n : Nat} {S0 S : List Int} {D : PDk} (h : Mix n S0 S D) : Mix n S0 S D.sync.2 := by
 unfold PDk.sync
 split
 · exact h
 · split
   · exact Mix.crash (D := D.less) h _
   · exact ⟨h.1, h.2.1, fun j l e => by cases e⟩
theorem Mix.clean {n m : Nat} {S0 S : List Int} {D : PDk} (h : Mix n S0 S D) : Mix n S0 S (D.clean 0 S m).2 := by
 unfold PDk.clean
 split
 · exact h.clN m
 · split
   · exact (h.clN m).sync
   · exact h.clN m
theorem mix_scan {n st : Nat} {l : List PE} {T : List (List Int)} (hl : T.length = n) (hm : ∀ e ∈ l, e.may = true) (hst : st ≤ l.length) (hn : (streamB l).length ≤ n * 63) (hT : ∀ j x, T[j]? = some x → x = tileB (streamB (l.take st)) j ∨ x = tileB (streamB l) j) :
 ∃ m, st ≤ m ∧ m ≤ l.length ∧ (scanB ((readB (tls T 0 n)).length + 1) (readB (tls T 0 n))).1 = l.take m := by
 have ht : tls T 0 n = T := by
  unfold tls
  rw [List.drop_zero, List.take_of_length_le (by omega)]
 have hpre : streamB (l.take st) = (streamB l).take (streamB (l.take st)).length := by
  have : streamB l = streamB (l.take st) ++ streamB (l.drop st) := by rw [← streamB_append, List.take_append_drop]
  rw [this, List.take_left' rfl]
 obtain ⟨p, hp⟩ : ∃ p, (streamB (l.take st)).length = p := ⟨_, rfl⟩
 have hpl : p ≤ (streamB l).length := by
  have := congrArg List.length hpre
  rw [List.length_take, hp] at this
  omega
 rw [hp] at hpre
 obtain ⟨k, hk1, hk2⟩ := mix_read (streamB l) p hpl T 0 (by omega) fun j x hj => by
  rw [Nat.zero_add, ← hpre]
  exact hT j x hj
 rw [Nat.zero_mul, List.drop_zero] at hk1
 obtain ⟨m, r, h1, h2, h3, h4⟩ := stream_cut l k hm
 refine ⟨m, h4 st hst (by omega), h1, ?_⟩
 rw [ht, hk1, h2, scanB_stream h3 (l.take m) _ (fun e he => hm e (List.mem_of_mem_take he)) (by
  have := streamB_len (l.take m)
  rw [List.length_append]
  omega)]
end Go.Proofs.YtlcfoeikamkpmaaGreat

namespace Go.Proofs.YtlcfoeikamkpmaaGreat
open Go.Wh

def Mayb (D : PDk) (i : Nat) (l : List Int) : Prop := D.T[i]? = some l ∨ D.was i = some l
section
variable {D : PDk} {i j : Nat} {l : List Int}
theorem mayb_crash {mask : List Int} (h : Mayb (D.crash mask) j l) : Mayb D j l := by
 have key : ∀ i, i ≤ D.loose.length → ∀ j l, (crashN D.was mask D.loose D.T i)[j]? = some l → Mayb D j l := fun i => by
  induction i with
  | zero => intro _ j l hj; exact .inl hj
  | succ i ih =>
   intro hi j l hj
   unfold crashN at hj
   split at hj
   · exact ih (by omega) j l hj
   · rw [List.getElem?_set] at hj
     split at hj
     · rename_i e
       split at hj
       · injection hj with hj
         have hm : D.loose.getD i 0 ∈ D.loose := by
          rw [List.getD_eq_getElem?_getD, List.getElem?_eq_getElem (by omega)]
          exact List.getElem_mem _
         obtain ⟨o, ho⟩ := Option.isSome_iff_exists.1 (looseL_mem.1 hm).2
         rw [ho] at hj
         refine .inr ?_
         rw [← e, ho, ← hj]
         rfl
       · cases hj
     · exact ih (by omega) j l hj
 rcases h with h | h
 · exact key _ (Nat.le_refl _) j l h
 · cases h
theorem mayb_done (h : Mayb D.done.2 j l) : Mayb D j l := by
 unfold PDk.done at h
 cases hp : D.plan with
 | none => rw [hp] at h; exact h
 | some p =>
  rw [hp] at h
  dsimp only at h
  split at h
  · exact mayb_crash h
  · exact h
theorem mayb_sync (h : Mayb D.sync.2 j l) : Mayb D j l := by
 unfold PDk.sync at h
 split at h
 · exact h
 · split at h
   · exact mayb_crash (D := D.less) h
   · exact h.imp id fun e => by cases e
theorem mayb_laid {x : List Int} (h : Mayb (D.laid i x) j l) : (j = i ∧ l = x) ∨ Mayb D j l := by
 rcases h with h | h
 · have h' : (D.T.set i x)[j]? = some l := h
   rw [List.getElem?_set] at h'
   split at h'
   · rename_i e
     split at h'
     · cases h'
       exact .inl ⟨e.symm, rfl⟩
     · cases h'
   · exact .inr (.inl h')
 · have h' : (D.wet i).was j = some l := h
   unfold PDk.wet at h'
   dsimp only at h'
   split at h'
   · exact .inr (.inr h')
   · by_cases hji : j = i
     · subst hji
       rw [upd_same] at h'
       exact .inr (.inl h')
     · rw [upd_other _ _ hji] at h'
       exact .inr (.inr h')
theorem mayb_put {z : Int} {x : List Int} (h : Mayb (D.put z x).2 j l) : (j = z.toNat ∧ l = x) ∨ Mayb D j l := by
 unfold PDk.put at h
 split at h
 · exact .inr h
 · exact mayb_laid (mayb_done h)
theorem mayb_clN {a : Nat} {S : List Int} : ∀ {n : Nat}, Mayb (clN D a S n).2.1 j l → (∃ k, k < n ∧ j = a + k ∧ l = tileB S k) ∨ Mayb D j l
 | 0, h => .inr h
 | n + 1, h => by
  unfold clN at h
  have up : ((∃ k, k < n ∧ j = a + k ∧ l = tileB S k) ∨ Mayb D j l) → (∃ k, k < n + 1 ∧ j = a + k ∧ l = tileB S k) ∨ Mayb D j l := fun e => e.imp (fun ⟨k, k1, k2⟩ => ⟨k, by omega, k2⟩) id
  split at h
  · exact up (mayb_clN h)
  · split at h
    · exact up (mayb_clN h)
    · rcases mayb_laid (mayb_done h) with ⟨e1, e2⟩ | e
      · exact .inl ⟨n, by omega, e1, e2⟩
      · exact up (mayb_clN e)
theorem mayb_clean {a n : Nat} {S : List Int} (h : Mayb (D.clean a S n).2 j l) : (∃ k, k < n ∧ j = a + k ∧ l = tileB S k) ∨ Mayb D j l := by
 unfold PDk.clean at h
 split at h
 · exact mayb_clN h
 · split at h
   · exact mayb_clN (mayb_sync h)
   · exact mayb_clN h
end
def PPg.fitR (p : PPg) : Prop := p.fit ∧ ∀ l ∈ p.c, l = [] ∨ rowT l = true
theorem fitR_void : PPg.void.fitR := ⟨fit_void, fun l hl => by
 have : l ∈ ([[], [], [], []] : List (List Int)) := hl
 simp only [List.mem_cons, List.not_mem_nil, or_false] at this
 rcases this with rfl | rfl | rfl | rfl <;> exact .inl rfl⟩
theorem fitR_set {p : PPg} (h : p.fitR) {i : Nat} {b : List Int} {z : Int} (hb : b = [] ∨ (b.length = 26 ∧ cellT b = true ∧ nought b = false ∧ Byt b)) (hr : b = [] ∨ rowT b = true) (hz : lsnMay z = true) : (p.set i b z).fitR := by
 refine ⟨fit_set h.1 hb hz, fun l hl => ?_⟩
 rcases List.mem_or_eq_of_mem_set hl with e | e
 · exact h.2 l e
 · rw [e]
   exact hr
def Okt (st : Nat) (r : Int × PPg) : Prop := r.1 = 3 ∨ (r.1 = 0 ∧ r.2.lsn ≤ st ∧ ∀ l ∈ r.2.c, l = [] ∨ rowT l = true)
theorem okt_take {p : PPg} {st : Nat} (h : p.fitR) (hl : p.lsn ≤ st) : Okt st (takeT (leafA p) (leafB p)) := by
 rw [fit_take h.1]
 exact .inr ⟨rfl, hl, h.2⟩
structure Saf (cf : PCf) (D : PDk) (es : List PE) (st : Nat) : Prop where
 st_le : st ≤ es.length
 page : ∀ k : Int, 0 ≤ k → k < cf.pages → ∀ a b, Mayb D (cf.first + (2 * k).toNat) a → Mayb D (cf.first + (2 * k + 1).toNat) b → Okt st (takeT a b)
 trail : ∀ j l, j < cf.n → Mayb D (cf.at_ + j) l → l = tileB (streamB (es.take st)) j ∨ l = tileB (streamB es) j
structure Alv (cf : PCf) (s : PSt) (Cd : Int → PPg) : Prop where
 tr : cf.tr = true
 dead : s.D.dead = false
 was : s.D.was = fun _ => none
 fine : s.D.fine
 sep : cf.first + 2 * cf.pages ≤ cf.at_
 room : cf.at_ + cf.n ≤ s.D.T.length
 nice : s.H.nice
 st_le : s.st ≤ s.es.length
 disk : ∀ k : Int, 0 ≤ k → k < cf.pages → s.D.T[cf.first + (2 * k).toNat]? = some (leafA (Cd k)) ∧ s.D.T[cf.first + (2 * k + 1).toNat]? = some (leafB (Cd k)) ∧ (Cd k).fitR ∧ (Cd k).lsn ≤ s.st
 key : ∀ k f, s.H.look k = some f → 0 ≤ k ∧ k < cf.pages ∧ f.p.fitR ∧ f.p.lsn ≤ s.es.length ∧ (f.dirty = false → f.p = Cd k) ∧ (f.dirty = true → (Cd k).lsn < f.p.lsn)
 trail : ∀ j l, j < cf.n → s.D.T[cf.at_ + j]? = some l → l = tileB (streamB (s.es.take s.st)) j
section
variable {cf : PCf} {s : PSt} {Cd : Int → PPg}
theorem Alv.mayb (h : Alv cf s Cd) {j : Nat} {l : List Int} (hm : Mayb s.D j l) : s.D.T[j]? = some l := by
 rcases hm with e | e
 · exact e
 · rw [h.was] at e
   cases e
theorem Alv.saf (h : Alv cf s Cd) : Saf cf s.D s.es s.st := by
 refine ⟨h.st_le, fun k k0 k1 a b ha hb => ?_, fun j l hj hm => .inl (h.trail j l hj (h.mayb hm))⟩
 obtain ⟨d1, d2, d3, d4⟩ := h.disk k k0 k1
 have ea := h.mayb ha
 rw [d1] at ea
 have eb := h.mayb hb
 rw [d2] at eb
 cases ea
 cases eb
 exact okt_take d3 d4
def Aft (cf : PCf) (es : List PE) (E : Int) (s' : PSt) : Prop := s'.es = es ∧ ((∃ Cd, Alv cf s' Cd ∧ E = 0) ∨ (E ≠ 0 ∧ s'.D.down ∧ ∃ st, Saf cf s'.D es st))
theorem put_dead {D : PDk} {i : Int} {l : List Int} (hd : D.dead = false) (h0 : 0 ≤ i) (h1 : i < D.T.length) (he : (D.put i l).1 ≠ 0) : (D.put i l).2.down := by
 have hm : D.may i = 0 := by
  unfold PDk.may
  rw [if_neg (by rw [hd]; decide), if_neg (by omega)]
 unfold PDk.put at he ⊢
 rw [hm, if_neg (by decide)] at he ⊢
 exact PDk.done_cut he
theorem put_alive {D : PDk} {i : Int} {l : List Int} (hd : D.dead = false) (hf : D.fine) (h0 : 0 ≤ i) (h1 : i < D.T.length) (he : (D.put i l).1 = 0) : (D.put i l).2.fine ∧ (D.put i l).2.dead = false ∧ (D.put i l).2.T = D.T.set i.toNat l := by
 have hm : D.may i = 0 := by
  unfold PDk.may
  rw [if_neg (by rw [hd]; decide), if_neg (by omega)]
 unfold PDk.put at he ⊢
 rw [hm, if_neg (by decide)] at he ⊢
 obtain ⟨a, b, c, -⟩ := PDk.done_ok (D := D.laid i.toNat l) hf hd he
 exact ⟨a, b, c⟩
theorem sync_dead {D : PDk} (hd : D.dead = false) (h : D.sync.1 ≠ 0) : D.sync.2.down := by
 unfold PDk.sync at h ⊢
 rw [if_neg (by rw [hd]; decide)] at h ⊢
 split
 · exact PDk.crash_down _ _
 · rename_i h2
   rw [if_neg h2] at h
   exact absurd rfl h
theorem two_mayb {D : PDk} {i : Int} {a b l : List Int} {j : Nat} (h : Mayb (D.two i a b).2 j l) : (j = i.toNat ∧ l = a) ∨ (j = (i + 1).toNat ∧ l = b) ∨ Mayb D j l := by
 have e1 : Mayb (D.put i a).2 j l → (j = i.toNat ∧ l = a) ∨ (j = (i + 1).toNat ∧ l = b) ∨ Mayb D j l := fun e => (mayb_put e).imp id .inr
 have e2 : Mayb ((D.put i a).2.put (i + 1) b).2 j l → (j = i.toNat ∧ l = a) ∨ (j = (i + 1).toNat ∧ l = b) ∨ Mayb D j l := fun e => by
  rcases mayb_put e with e | e
  · exact .inr (.inl e)
  · exact e1 e
 unfold PDk.two at h
 split at h
 · exact e1 h
 · split at h
   · exact e2 h
   · exact e2 (mayb_sync h)
theorem two_end {D : PDk} {i : Int} {a b : List Int} (hd : D.dead = false) (hf : D.fine) (h0 : 0 ≤ i) (h1 : i + 1 < D.T.length) :
 ((D.two i a b).1 ≠ 0 ∧ (D.two i a b).2.down) ∨ ((D.two i a b).1 = 0 ∧ (D.two i a b).2.fine ∧ (D.two i a b).2.dead = false ∧ (D.two i a b).2.was = (fun _ => none) ∧ (D.two i a b).2.T = (D.T.set i.toNat a).set (i.toNat + 1) b) := by
 unfold PDk.two
 by_cases c1 : (D.put i a).1 ≠ 0
 · rw [if_pos c1]
   exact .inl ⟨c1, put_dead hd h0 (by omega) c1⟩
 rw [if_neg c1]
 have c1 : (D.put i a).1 = 0 := by simpa using c1
 obtain ⟨f1, d1, t1⟩ := put_alive hd hf h0 (by omega) c1
 have hl : (D.put i a).2.T.length = D.T.length := by rw [t1, List.length_set]
 by_cases c2 : ((D.put i a).2.put (i + 1) b).1 ≠ 0
 · rw [if_pos c2]
   exact .inl ⟨c2, put_dead d1 (by omega) (by rw [hl]; omega) c2⟩
 rw [if_neg c2]
 have c2 : ((D.put i a).2.put (i + 1) b).1 = 0 := by simpa using c2
 obtain ⟨f2, d2, t2⟩ := put_alive d1 f1 (by omega) (by rw [hl]; omega) c2
 by_cases c3 : ((D.put i a).2.put (i + 1) b).2.sync.1 ≠ 0
 · exact .inl ⟨c3, sync_dead d2 c3⟩
 have c3 : ((D.put i a).2.put (i + 1) b).2.sync.1 = 0 := by simpa using c3
 obtain ⟨f3, d3, t3, w3⟩ := PDk.sync_ok f2 d2 c3
 refine .inr ⟨c3, f3, d3, w3, ?_⟩
 rw [t3, t2, t1, show (i + 1).toNat = i.toNat + 1 by omega]
theorem ahead_safe (h : Alv cf s Cd) {f : PFr} (hz : f.p.lsn ≤ s.es.length) :
 ((s.ahead cf f).1 = 0 ∧ Alv cf (s.ahead cf f).2 Cd ∧ (s.ahead cf f).2.es = s.es ∧ (s.ahead cf f).2.H = s.H ∧ f.p.lsn ≤ (s.ahead cf f).2.st) ∨ ((s.ahead cf f).1 ≠ 0 ∧ (s.ahead cf f).2.es = s.es ∧ (s.ahead cf f).2.D.down ∧ ∃ st, Saf cf (s.ahead cf f).2.D s.es st) := by
 have hsep := h.sep
 unfold PSt.ahead
 split
 · rename_i hc
   have hst : s.st ≠ s.es.length := by have := hc.2; omega
   have hfo : foB s.D cf.at_ (streamB s.es) cf.n s.es.length s.st = ((s.D.clean cf.at_ (streamB s.es) cf.n).1, (s.D.clean cf.at_ (streamB s.es) cf.n).2, if (s.D.clean cf.at_ (streamB s.es) cf.n).1 = 0 then s.es.length else s.st) := by
    unfold foB
    rw [if_neg hst, if_neg (by rw [h.dead]; decide)]
   unfold PSt.force
   rw [hfo]
   by_cases he : (s.D.clean cf.at_ (streamB s.es) cf.n).1 = 0
   · obtain ⟨k1, k2, k3, k4⟩ := PDk.clean_ok h.fine h.dead h.was he
     refine .inl ⟨he, ⟨h.tr, k2, k4, k1, h.sep, ?_, h.nice, ?_, fun k k0 k1 => ?_, h.key, fun j l hj hl => ?_⟩, rfl, rfl, ?_⟩
     · show cf.at_ + cf.n ≤ (s.D.clean cf.at_ (streamB s.es) cf.n).2.T.length
       rw [k3, layB_length]
       exact h.room
     · show (if _ then _ else _) ≤ s.es.length
       rw [if_pos he]
       exact Nat.le_refl _
     · show (s.D.clean cf.at_ (streamB s.es) cf.n).2.T[_]? = _ ∧ (s.D.clean cf.at_ (streamB s.es) cf.n).2.T[_]? = _ ∧ _ ∧ (Cd k).lsn ≤ ((if _ then _ else _ : Nat) : Int)
       obtain ⟨d1, d2, d3, d4⟩ := h.disk k k0 k1
       rw [k3, layB_other (.inl (by omega)), layB_other (.inl (by omega)), if_pos he]
       exact ⟨d1, d2, d3, by have := h.st_le; omega⟩
     · have hl' : (s.D.clean cf.at_ (streamB s.es) cf.n).2.T[cf.at_ + j]? = some l := hl
       rw [k3, layB_get (by have := h.room; omega) hj] at hl'
       show l = tileB (streamB (s.es.take (if _ then _ else _))) j
       rw [if_pos he, List.take_length]
       exact (Option.some.inj hl').symm
     · show f.p.lsn ≤ ((if _ then _ else _ : Nat) : Int)
       rw [if_pos he]
       exact hz
   · refine .inr ⟨he, rfl, PDk.clean_cut h.fine h.dead he, s.st, h.st_le, fun k k0 k1 a b ha hb => ?_, fun j l hj hm => ?_⟩
     · have far : ∀ {q : Nat} {l : List Int}, q < cf.at_ → Mayb (s.D.clean cf.at_ (streamB s.es) cf.n).2 q l → Mayb s.D q l := fun {q l} hq hm => by
        rcases mayb_clean hm with ⟨k, _, e, _⟩ | e
        · omega
        · exact e
       exact h.saf.page k k0 k1 a b (far (by omega) ha) (far (by omega) hb)
     · rcases mayb_clean hm with ⟨k, _, e, e2⟩ | e
       · have : j = k := by omega
         rw [this]
         exact .inr e2
       · exact h.saf.trail j l hj e
 · rename_i hc
   refine .inl ⟨rfl, h, rfl, rfl, ?_⟩
   by_cases hl : (s.st : Int) < f.p.lsn
   · exact absurd ⟨h.tr, hl⟩ hc
   · show f.p.lsn ≤ (s.st : Int)
     omega
theorem write_safe (h : Alv cf s Cd) {k : Int} {f : PFr} (h0 : 0 ≤ k) (h1 : k < cf.pages) (hz : f.p.lsn ≤ s.es.length) (hf : f.p.fitR) (hlt : (Cd k).lsn < f.p.lsn) :
 ((s.write cf k f).1 = 0 ∧ (s.write cf k f).2.es = s.es ∧ (s.write cf k f).2.H = s.H ∧ ∀ H' : Hd PFr, H'.nice → (∀ j g, H'.look j = some g → 0 ≤ j ∧ j < cf.pages ∧ g.p.fitR ∧ g.p.lsn ≤ s.es.length ∧ (g.dirty = false → g.p = if j = k then f.p else Cd j) ∧ (g.dirty = true → (if j = k then f.p else Cd j).lsn < g.p.lsn)) → Alv cf { (s.write cf k f).2 with H := H' } (fun j => if j = k then f.p else Cd j)) ∨
 ((s.write cf k f).1 ≠ 0 ∧ (s.write cf k f).2.es = s.es ∧ (s.write cf k f).2.D.down ∧ ∃ st, Saf cf (s.write cf k f).2.D s.es st) := by
 unfold PSt.write
 rcases ahead_safe h hz with ⟨a1, a2, a3, a4, a5⟩ | ⟨a1, a2, a3, a4⟩
 · rw [if_neg (by rw [a1]; decide), if_neg (by rw [fit_may hf.1]; decide)]
   generalize s.ahead cf f = r at *
   obtain ⟨E, s1⟩ := r
   dsimp only at a1 a2 a3 a4 a5 ⊢
   have hsep := a2.sep
   have hroom := a2.room
   obtain ⟨d1, d2, d3, d4⟩ := a2.disk k h0 h1
   have et : ((cf.first : Int) + 2 * k).toNat = cf.first + (2 * k).toNat := by omega
   have et1 : ((cf.first : Int) + 2 * k + 1).toNat = cf.first + (2 * k + 1).toNat := by omega
   rcases two_end (i := (cf.first : Int) + 2 * k) (a := leafA f.p) (b := leafB f.p) a2.dead a2.fine (by omega) (by omega) with ⟨t1, t2⟩ | ⟨t1, t2, t3, t4, t5⟩
   · refine .inr ⟨t1, a3, t2, s1.st, by rw [← a3]; exact a2.st_le, fun j j0 j1 a b ha hb => ?_, fun j l hj hm => ?_⟩
     · have ma := two_mayb ha
       have mb := two_mayb hb
       rw [et, et1] at ma mb
       by_cases hjk : j = k
       · subst hjk
         have ca : a = leafA f.p ∨ a = leafA (Cd j) := by
          rcases ma with ⟨_, e⟩ | ⟨e, _⟩ | e
          · exact .inl e
          · omega
          · have := a2.mayb e
            rw [d1] at this
            exact .inr (Option.some.inj this).symm
         have cb : b = leafB f.p ∨ b = leafB (Cd j) := by
          rcases mb with ⟨e, _⟩ | ⟨_, e⟩ | e
          · omega
          · exact .inl e
          · have := a2.mayb e
            rw [d2] at this
            exact .inr (Option.some.inj this).symm
         rcases ca with rfl | rfl <;> rcases cb with rfl | rfl
         · exact okt_take hf a5
         · rw [takeT_torn hf.1.lsn d3.1.lsn (by omega)]
           exact .inl rfl
         · rw [takeT_torn d3.1.lsn hf.1.lsn (by omega)]
           exact .inl rfl
         · exact okt_take d3 d4
       · have ca : Mayb s1.D (cf.first + (2 * j).toNat) a := by
          rcases ma with ⟨e, _⟩ | ⟨e, _⟩ | e
          · omega
          · omega
          · exact e
         have cb : Mayb s1.D (cf.first + (2 * j + 1).toNat) b := by
          rcases mb with ⟨e, _⟩ | ⟨e, _⟩ | e
          · omega
          · omega
          · exact e
         exact a2.saf.page j j0 j1 a b ca cb
     · have hm' : Mayb s1.D (cf.at_ + j) l := by
        rcases two_mayb hm with ⟨e, _⟩ | ⟨e, _⟩ | e
        · omega
        · omega
        · exact e
       rw [← a3]
       exact a2.saf.trail j l hj hm'
   · refine .inl ⟨t1, a3, a4, fun H' n1 n2 => ⟨a2.tr, t3, t4, t2, a2.sep, ?_, n1, a2.st_le, fun j j0 j1 => ?_, ?_, fun j l hj hl => ?_⟩⟩
     · show cf.at_ + cf.n ≤ (s1.D.two _ _ _).2.T.length
       rw [t5, List.length_set, List.length_set]
       exact hroom
     · show (s1.D.two _ _ _).2.T[_]? = _ ∧ (s1.D.two _ _ _).2.T[_]? = _ ∧ _ ∧ _ ≤ (s1.st : Int)
       rw [t5, et]
       by_cases hjk : j = k
       · subst hjk
         simp only [if_pos]
         rw [List.getElem?_set_ne (by omega), List.getElem?_set_self (by omega), show cf.first + (2 * j + 1).toNat = cf.first + (2 * j).toNat + 1 by omega, List.getElem?_set_self (by rw [List.length_set]; omega)]
         exact ⟨rfl, rfl, hf, a5⟩
       · simp only [if_neg hjk]
         rw [List.getElem?_set_ne (by omega), List.getElem?_set_ne (by omega), List.getElem?_set_ne (by omega), List.getElem?_set_ne (by omega)]
         exact a2.disk j j0 j1
     · intro j g hg
       rw [a3]
       exact n2 j g hg
     · have hl' : (s1.D.two ((cf.first : Int) + 2 * k) (leafA f.p) (leafB f.p)).2.T[cf.at_ + j]? = some l := hl
       rw [t5, et, List.getElem?_set_ne (by omega), List.getElem?_set_ne (by omega)] at hl'
       exact a2.trail j l hj hl'
 · rw [if_pos a1]
   exact .inr ⟨a1, a2, a3, a4⟩
theorem lay_safe (h : Alv cf s Cd) {k : Int} (h0 : 0 ≤ k) (h1 : k < cf.pages) (hk : s.H.look k = none) :
 ((s.lay cf k ⟨Cd k, false, 0⟩).1 = 0 ∧ (s.lay cf k ⟨Cd k, false, 0⟩).2.es = s.es ∧ ∃ Cd', Alv cf (s.lay cf k ⟨Cd k, false, 0⟩).2 Cd' ∧ (s.lay cf k ⟨Cd k, false, 0⟩).2.H.look k = some ⟨Cd k, false, 0⟩ ∧ Cd' k = Cd k) ∨
 ((s.lay cf k ⟨Cd k, false, 0⟩).1 ≠ 0 ∧ (s.lay cf k ⟨Cd k, false, 0⟩).2.es = s.es ∧ (s.lay cf k ⟨Cd k, false, 0⟩).2.D.down ∧ ∃ st, Saf cf (s.lay cf k ⟨Cd k, false, 0⟩).2.D s.es st) := by
 obtain ⟨n1, n2, n3⟩ := put_spec h.nice PFr.void k ⟨Cd k, false, 0⟩
 obtain ⟨-, -, c3, c4⟩ := h.disk k h0 h1
 have hle : (Cd k).lsn ≤ s.es.length := by have := h.st_le; omega
 rcases n3 with ⟨e, hr, hlook⟩ | ⟨_, hall, k0, v0, hk0, e, hv0, hlook⟩
 · refine .inl ?_
   unfold PSt.lay
   rw [e, if_neg (by simp), if_neg (by simp)]
   refine ⟨rfl, rfl, Cd, ⟨h.tr, h.dead, h.was, h.fine, h.sep, h.room, n1, h.st_le, h.disk, fun j f hf => ?_, h.trail⟩, by show (s.H.put PFr.void k ⟨Cd k, false, 0⟩).2.look k = _; rw [hlook k, if_pos rfl], rfl⟩
   have hf' : (s.H.put PFr.void k ⟨Cd k, false, 0⟩).2.look j = some f := hf
   rw [hlook j] at hf'
   split at hf'
   · rename_i hj
     cases hf'
     subst hj
     exact ⟨h0, h1, c3, hle, fun _ => rfl, fun e => by cases e⟩
   · exact h.key j f hf'
 · obtain ⟨a0, a1, a2, a3, a4, a5⟩ := h.key k0 v0 hv0
   have hlk : (s.H.put PFr.void k ⟨Cd k, false, 0⟩).2.look k = some ⟨Cd k, false, 0⟩ := by rw [hlook k, if_pos rfl]
   by_cases hd : v0.dirty = true
   · have hw := write_safe h a0 a1 a3 a2 (a5 hd)
     unfold PSt.lay
     rw [e]
     dsimp only
     rcases hw with ⟨w1, w2, w3, w4⟩ | ⟨w1, w2, w3, w4⟩
     · refine .inl ?_
       rw [if_neg (by rw [w1]; simp), if_pos ⟨rfl, hd⟩]
       refine ⟨rfl, w2, _, w4 (s.H.put PFr.void k ⟨Cd k, false, 0⟩).2 n1 fun j g hg => ?_, hlk, if_neg fun e => hk0 e.symm⟩
       rw [hlook j] at hg
       split at hg
       · rename_i hj
         cases hg
         subst hj
         rw [if_neg fun e => hk0 e.symm]
         exact ⟨h0, h1, c3, hle, fun _ => rfl, fun e => by cases e⟩
       · split at hg
         · cases hg
         · rename_i hj0
           rw [if_neg hj0]
           exact h.key j g hg
     · refine .inr ?_
       rw [if_pos ⟨rfl, hd, w1⟩]
       exact ⟨w1, w2, w3, w4⟩
   · refine .inl ?_
     unfold PSt.lay
     rw [e, if_neg (fun e => hd e.2.1), if_neg (fun e => hd e.2)]
     refine ⟨rfl, rfl, Cd, ⟨h.tr, h.dead, h.was, h.fine, h.sep, h.room, n1, h.st_le, h.disk, fun j f hf => ?_, h.trail⟩, hlk, rfl⟩
     have hf' : (s.H.put PFr.void k ⟨Cd k, false, 0⟩).2.look j = some f := hf
     rw [hlook j] at hf'
     split at hf'
     · rename_i hj
       cases hf'
       subst hj
       exact ⟨h0, h1, c3, hle, fun _ => rfl, fun e => by cases e⟩
     · split at hf'
       · cases hf'
       · exact h.key j f hf'
theorem get_safe (h : Alv cf s Cd) {k : Int} (h0 : 0 ≤ k) (h1 : k < cf.pages) :
 ((s.get cf k).1 = 0 ∧ (s.get cf k).2.2.es = s.es ∧ ∃ Cd', Alv cf (s.get cf k).2.2 Cd' ∧ (s.get cf k).2.2.H.look k = some (s.get cf k).2.1) ∨
 ((s.get cf k).1 ≠ 0 ∧ (s.get cf k).2.2.es = s.es ∧ (s.get cf k).2.2.D.down ∧ ∃ st, Saf cf (s.get cf k).2.2.D s.es st) := by
 have hm := may_in (cf := cf) h0 h1
 unfold PSt.get
 rw [if_neg (by rw [hm]; decide)]
 cases hl : s.H.look k with
 | some f =>
  obtain ⟨t1, t2, t3⟩ := touch_spec h.nice k
  refine .inl ⟨rfl, rfl, Cd, ⟨h.tr, h.dead, h.was, h.fine, h.sep, h.room, t1, h.st_le, h.disk, fun j g hj => h.key j g (by rw [← t3 j]; exact hj), h.trail⟩, ?_⟩
  show (s.H.touch k).look k = _
  rw [t3 k, hl]
 | none =>
  simp only
  rw [if_neg (by rw [h.dead]; decide)]
  obtain ⟨d1, d2, d3, d4⟩ := h.disk k h0 h1
  have ht : takeT (s.tile cf (2 * k)) (s.tile cf (2 * k + 1)) = (0, Cd k) := by
   unfold PSt.tile
   rw [List.getD_eq_getElem?_getD, List.getD_eq_getElem?_getD, d1, d2]
   exact fit_take d3.1
  rw [ht]
  dsimp only
  rw [if_neg (by decide)]
  rcases lay_safe h h0 h1 hl with ⟨e1, e2, Cd', e3, e4, -⟩ | e
  · exact .inl ⟨e1, e2, Cd', e3, e4⟩
  · exact .inr e
theorem set_safe (h : Alv cf s Cd) {k i : Int} (h0 : 0 ≤ k) (h1 : k < cf.pages) (i0 : 0 ≤ i) (i4 : i < 4) {b : List Int} {z : Int} (hb : b = [] ∨ (b.length = 26 ∧ cellT b = true ∧ nought b = false ∧ Byt b)) (hr : b = [] ∨ rowT b = true) (hz : lsnMay z = true) (hze : z ≤ s.es.length) :
 Aft cf s.es (s.set cf k i b z).1 (s.set cf k i b z).2 := by
 unfold PSt.set
 rcases get_safe h h0 h1 with ⟨e1, e2, Cd', e3, e4⟩ | ⟨e1, e2, e3, e4⟩
 · rw [if_neg (by rw [e1]; decide), if_neg (by
    rintro (h | h | h)
    · omega
    · omega
    · rcases hb with e | e
      · rw [e] at h
        exact h.1 rfl
      · exact h.2 e.1)]
   generalize s.get cf k = r at *
   obtain ⟨E, f, s1⟩ := r
   dsimp only at e1 e2 e3 e4 ⊢
   split
   · exact ⟨e2, .inl ⟨Cd', e3, rfl⟩⟩
   · rename_i hlt
     obtain ⟨p1, p2, p3⟩ := put_spec e3.nice PFr.void k ⟨f.p.set i.toNat b z, true, if f.dirty = true then f.rec_ else z⟩
     have hlook : ∀ j, (s1.H.put PFr.void k ⟨f.p.set i.toNat b z, true, if f.dirty = true then f.rec_ else z⟩).2.look j = if j = k then some ⟨f.p.set i.toNat b z, true, if f.dirty = true then f.rec_ else z⟩ else s1.H.look j := by
      rcases p3 with ⟨-, -, hq⟩ | ⟨hq, -⟩
      · exact hq
      · rw [e4] at hq
        cases hq
     refine ⟨e2, .inl ⟨Cd', ⟨e3.tr, e3.dead, e3.was, e3.fine, e3.sep, e3.room, p1, e3.st_le, e3.disk, fun j g hj => ?_, e3.trail⟩, rfl⟩⟩
     have hj' : (s1.H.put PFr.void k ⟨f.p.set i.toNat b z, true, if f.dirty = true then f.rec_ else z⟩).2.look j = some g := hj
     rw [hlook j] at hj'
     split at hj'
     · rename_i hjk
       cases hj'
       subst hjk
       obtain ⟨a0, a1, a2, a3, a4, a5⟩ := e3.key j f e4
       refine ⟨a0, a1, fitR_set a2 hb hr hz, ?_, fun e => (by cases e), fun _ => ?_⟩
       · show z ≤ (s1.es.length : Int)
         rw [e2]
         exact hze
       · show (Cd' j).lsn < z
         cases hd : f.dirty with
         | false => rw [← a4 hd]; omega
         | true => have := a5 hd; omega
     · exact e3.key j g hj'
 · rw [if_pos e1]
   exact ⟨e2, .inr ⟨e1, e3, e4⟩⟩
theorem flush_safe (h : Alv cf s Cd) {k : Int} (h0 : 0 ≤ k) (h1 : k < cf.pages) : Aft cf s.es (s.flush cf k).1 (s.flush cf k).2 := by
 have hm := may_in (cf := cf) h0 h1
 unfold PSt.flush
 rw [if_neg (by rw [hm]; decide)]
 cases hl : s.H.look k with
 | none => exact ⟨rfl, .inl ⟨Cd, h, rfl⟩⟩
 | some f =>
  simp only
  by_cases hd : f.dirty = false
  · rw [if_pos hd]
    exact ⟨rfl, .inl ⟨Cd, h, rfl⟩⟩
  · rw [if_neg hd]
    obtain ⟨a0, a1, a2, a3, a4, a5⟩ := h.key k f hl
    rcases write_safe h h0 h1 a3 a2 (a5 (by simpa using hd)) with ⟨w1, w2, w3, w4⟩ | ⟨w1, w2, w3, w4⟩
    · rw [if_neg (by rw [w1]; decide)]
      obtain ⟨t1, t2, t3⟩ := swap_spec h.nice k { f with dirty := false }
      rw [w3]
      refine ⟨w2, .inl ⟨_, w4 (s.H.swap k { f with dirty := false }) t1 fun j g hg => ?_, rfl⟩⟩
      rw [t3 j, hl] at hg
      by_cases hjk : j = k
      · subst hjk
        rw [if_pos ⟨rfl, rfl⟩] at hg
        cases hg
        rw [if_pos rfl]
        exact ⟨h0, h1, a2, a3, fun _ => rfl, fun e => by cases e⟩
      · rw [if_neg (fun e => hjk e.1)] at hg
        rw [if_neg hjk]
        exact h.key j g hg
    · rw [if_pos w1]
      exact ⟨w2, .inr ⟨w1, w3, w4⟩⟩
theorem flush_dead (hd : s.D.dead = true) (k : Int) : (s.flush cf k).2.D = s.D ∧ (s.flush cf k).2.es = s.es := by
 have hp : ∀ (i : Int) l, s.D.put i l = (2, s.D) := fun i l => by
  have hm : s.D.may i = 2 := by
   unfold PDk.may
   rw [if_pos hd]
  unfold PDk.put
  rw [hm, if_pos (by decide)]
 have ha : ∀ f, (s.ahead cf f).2.D = s.D ∧ (s.ahead cf f).2.es = s.es := fun f => by
  unfold PSt.ahead
  split
  · unfold PSt.force foB
    split
    · exact ⟨rfl, rfl⟩
    · exact ⟨rfl, rfl⟩
  · exact ⟨rfl, rfl⟩
 have hw : ∀ f, (s.write cf k f).2.D = s.D ∧ (s.write cf k f).2.es = s.es := fun f => by
  obtain ⟨h1, h2⟩ := ha f
  unfold PSt.write
  split
  · exact ⟨h1, h2⟩
  · split
    · exact ⟨h1, h2⟩
    · refine ⟨?_, h2⟩
      show ((s.ahead cf f).2.D.two _ _ _).2 = s.D
      rw [h1]
      unfold PDk.two
      rw [hp, if_pos (show (2 : Int) ≠ 0 by decide)]
 unfold PSt.flush
 split
 · exact ⟨rfl, rfl⟩
 · split
   · exact ⟨rfl, rfl⟩
   · split
     · exact ⟨rfl, rfl⟩
     · split
       · exact hw _
       · exact hw _
theorem append_safe (h : Alv cf s Cd) (p : PE) : Alv cf { s with es := s.es ++ [p] } Cd :=
 ⟨h.tr, h.dead, h.was, h.fine, h.sep, h.room, h.nice, by show s.st ≤ (s.es ++ [p]).length; rw [List.length_append]; have := h.st_le; omega, h.disk,
  fun k f hf => by
   obtain ⟨a0, a1, a2, a3, a4, a5⟩ := h.key k f hf
   exact ⟨a0, a1, a2, by show f.p.lsn ≤ ((s.es ++ [p]).length : Int); rw [List.length_append]; simp; omega, a4, a5⟩,
  fun j l hj hl => by
   show l = tileB (streamB ((s.es ++ [p]).take s.st)) j
   rw [List.take_append_of_le_length h.st_le]
   exact h.trail j l hj hl⟩
end
theorem leaf_void : leafA PPg.void = List.replicate 64 0 ∧ leafB PPg.void = List.replicate 64 0 := by decide
theorem new_safe {m n : Nat} {cf : PCf} {k : Int} {mask : List Int} (htr : cf.tr = true) (hsep : cf.first + 2 * cf.pages ≤ cf.at_) (hr : cf.at_ + cf.n ≤ m) (hn : 0 < n) (hf : ((newD m).arm k mask).fine) : Alv cf ⟨(newD m).arm k mask, [], 0, mkHd PFr.void n⟩ (fun _ => PPg.void) := by
 obtain ⟨h1, h2⟩ := mk_nice PFr.void hn
 have key : ∀ j : Nat, j < m → (newD m).T[j]? = some (List.replicate 64 0) := fun j hj => by
  unfold newD zeroT
  rw [List.getElem?_replicate, if_pos hj]
 refine ⟨htr, rfl, rfl, hf, hsep, by show cf.at_ + cf.n ≤ (newD m).T.length; rw [newD_len]; exact hr, h1, Nat.le_refl _, fun k k0 k1 => ⟨?_, ?_, fitR_void, Int.le_refl 0⟩, fun k f hf => ?_, fun j l hj hl => ?_⟩
 · show (newD m).T[_]? = _
   rw [key _ (by omega), leaf_void.1]
 · show (newD m).T[_]? = _
   rw [key _ (by omega), leaf_void.2]
 · have hf' : (mkHd PFr.void n).look k = some f := hf
   rw [h2 k] at hf'
   cases hf'
 · have hl' : (newD m).T[cf.at_ + j]? = some l := hl
   rw [key _ (by omega)] at hl'
   cases hl'
   show _ = tileB [] j
   rw [tileB_nil]
theorem Saf.crash {cf : PCf} {D : PDk} {es : List PE} {st : Nat} (h : Saf cf D es st) (mask : List Int) : Saf cf (D.crash mask) es st :=
 ⟨h.st_le, fun k k0 k1 a b ha hb => h.page k k0 k1 a b (mayb_crash ha) (mayb_crash hb), fun j l hj hm => h.trail j l hj (mayb_crash hm)⟩
theorem Saf.open {cf : PCf} {D : PDk} {es : List PE} {st : Nat} (h : Saf cf D es st) (hl : cf.at_ + cf.n ≤ D.T.length) (hm : ∀ e ∈ es, e.may = true) (hn : (streamB es).length ≤ cf.n * 63) : ∃ m, st ≤ m ∧ openE D cf.at_ cf.n = es.take m := by
 have ht : tls (tls D.T cf.at_ cf.n) 0 cf.n = tls D.T cf.at_ cf.n := by
  unfold tls
  rw [List.drop_zero, List.take_take, Nat.min_self]
 obtain ⟨m, h1, -, h3⟩ := mix_scan (n := cf.n) (st := st) (l := es) (T := tls D.T cf.at_ cf.n) (by unfold tls; rw [List.length_take, List.length_drop]; omega) hm h.st_le hn fun j x hj => by
  unfold tls at hj
  rw [List.getElem?_take] at hj
  split at hj
  · rename_i hjn
    rw [List.getElem?_drop] at hj
    exact h.trail j x hjn (.inl hj)
  · cases hj
 rw [ht] at h3
 exact ⟨m, h1, h3⟩
theorem Saf.read {cf : PCf} {D : PDk} {es : List PE} {st : Nat} (h : Saf cf D es st) {k : Int} (h0 : 0 ≤ k) (h1 : k < cf.pages) {a b : List Int} (ha : D.T[cf.first + (2 * k).toNat]? = some a) (hb : D.T[cf.first + (2 * k + 1).toNat]? = some b) : Okt st (takeT a b) :=
 h.page k h0 h1 a b (.inl ha) (.inl hb)
end Go.Proofs.YtlcfoeikamkpmaaGreat

namespace Go.Proofs.YtlcfoeikamkpmaaGreat
open Go.RowKit Go.Wh Go.Maps

def cfA : PCf := ⟨0, 8, 16, 44, true⟩
theorem arm_fine {D : PDk} {k : Int} {mask : List Int} (h : k ≤ 1000000) : (D.arm k mask).fine := fun k' m' e => by
 unfold PDk.arm at e
 dsimp only at e
 split at e
 · cases e
   exact ⟨by assumption, h⟩
 · cases e
section
variable {W : World} {c : Nat → Nat} {a b m r : Nat} {w : World} {pb d : Nat} {t : Option Nat} {cf : PCf} {s : PSt}
theorem px_arm (h : PX W c a b m r w pb d t cf s) (hf : Dif a b m r) (k : Int) (hk : k ≤ 1000000) (ma : Option Addr) (mm mc : Nat) (mask : List Int) (hm : Sl W (fun g => g < W.heap.size) 1 (.slice ma mm mc) mm (bc mask)) (hb : Byt mask) (h10 : mm ≤ 10000) :
 Calls Tryz.prog 27 #[.pointer (some ⟨d, 0, none⟩), .int .i64 k, .slice ma mm mc] w (fun e w' => e = .returned (.tuple #[]) ∧ ∃ c', PX W c' a b m r w' pb d t cf { s with D := s.D.arm k mask }) := by
 obtain ⟨tv, mb, vs, V, pp, hd⟩ := id h.dt.dk
 refine (arm_at hd k ma mm mc mask (Sl.reads (hm.still h.lg.still)) (fun h0 g hg e => ?_) hb h10).mono ?_
 · obtain ⟨g', o, c', e', hq, -, -⟩ := hm.pos h0
   cases e'
   have e2 : g' = g := Option.some.inj hg
   have e3 : c g = a := e
   have := h.lg.hi g (by rw [e3]; exact hf.a0)
   omega
 · rintro e w' ⟨rfl, k1, k2⟩
   have hst := Stp.newer (X := fun i => i = a) (K := fun i => i = a) h.dt.low k2 rfl rfl
   refine ⟨rfl, _, h.lg.step hst fun e => hf.a0 e.symm, ⟨hst.low, ?_, fun t2 e => ?_, h.dt.trf, arm_fine hk, h.dt.byt, h.dt.len, h.dt.trl, h.dt.fit⟩, h.po.keep h.lg.low hst (fun e => hf.am e.symm) (fun e => hf.ar e.symm) (fun e => hf.ar e.symm) hf.m0 hf.r0⟩
   · rw [recol_new h.dt.low hf.a0]
     exact k1
   · rw [recol_old h.dt.low hf.b0 (Ne.symm hf.ab)]
     exact (h.dt.tr t2 e).only k2 fun g e1 e2 => hf.ab (by have e1' : c g = b := e1; have e2' : c g = a := e2; omega)
theorem px_dead (h : PX W c a b m r w pb d t cf s) : Calls Tryz.prog 28 #[.pointer (some ⟨d, 0, none⟩)] w (SamePost w (.bool s.D.dead)) := by
 obtain ⟨tv, mb, vs, V, pp, hd⟩ := id h.dt.dk
 exact dead_at hd
end
structure FinD (W : World) (d : Nat) (w : World) (es : List PE) (st : Nat) (A : Nat → Prop) (D : PDk) : Prop where
 still : Still W w
 dk : DgX A d D w
 hi : ∀ g, A g → W.heap.size ≤ g
 plan : D.plan = none
 was : D.was = fun _ => none
 saf : Saf cfA D es st
 byt : D.byt
 len : D.T.length ≤ 2000
 room : 60 ≤ D.T.length
section
variable {W : World} {c : Nat → Nat} {w : World} {pb d : Nat} {t : Option Nat} {s : PSt} {es : List PE} {st : Nat} {A : Nat → Prop} {D : PDk}
theorem px_fin (h : PX W c 1 2 3 4 w pb d t cfA s) (hd : s.D.down) (hs : Saf cfA s.D es st) : FinD W d w es st (Cs c 1) s.D :=
 ⟨h.lg.still, h.dt.dk, fun g e => h.lg.hi g (by rw [show c g = 1 from e]; decide), hd.2.1, hd.2.2, hs, h.dt.byt, h.dt.len, (h.dt.trl rfl).1⟩
theorem px_crash (h : PX W c 1 2 3 4 w pb d t cfA s) (hs : Saf cfA s.D es st) (ma : Option Addr) (mm mc : Nat) (mask : List Int) (hm : Sl W (fun g => g < W.heap.size) 1 (.slice ma mm mc) mm (bc mask)) (hb : Byt mask) :
 Calls Tryz.prog 29 #[.pointer (some ⟨d, 0, none⟩), .slice ma mm mc] w (fun e w' => e = .returned (.tuple #[]) ∧ ∃ A D, FinD W d w' es st A D) := by
 obtain ⟨tv, mb, vs, V, pp, hd⟩ := id h.dt.dk
 have hh : ∀ g, Cs c 1 g → W.heap.size ≤ g := fun g e => h.lg.hi g (by rw [show c g = 1 from e]; decide)
 refine (crash_at hd h.dt.len ma mc mask (fun _ => hm.still h.lg.still) (fun g hg e => ?_) (by have := hm.1; rw [bc_length] at this; omega) hb).mono ?_
 · have := hh g (hd.mu g (.inr (.inr (.inl e))))
   have hg' : g < W.heap.size := hg
   omega
 · rintro e w' ⟨rfl, ⟨vs', hd'⟩, ho⟩
   have ho' : Only (Cs c 1) w w' := ho.mono fun g e => hd.mu g (by
    rcases e with e | e | e
    · exact .inl e
    · exact .inr (.inl e)
    · exact .inr (.inr (.inl e)))
   refine ⟨rfl, Cs c 1, s.D.crash mask, h.lg.still.andThen ho' fun g hg e => by have := hh g e; omega, ⟨_, _, _, _, _, hd'⟩, hh, rfl, rfl, hs.crash mask, PDk.byt_crash h.dt.byt mask, ?_, ?_⟩
   · show (crashN _ _ _ _ _).length ≤ 2000
     rw [crashN_length]
     exact h.dt.len
   · show 60 ≤ (crashN _ _ _ _ _).length
     rw [crashN_length]
     exact (h.dt.trl rfl).1
theorem fin_power (h : FinD W d w es st A D) : Calls Tryz.prog 30 #[.pointer (some ⟨d, 0, none⟩)] w (fun e w' => e = .returned (.tuple #[]) ∧ ∃ D', D'.dead = false ∧ FinD W d w' es st A D') := by
 obtain ⟨tv, mb, vs, V, pp, hd⟩ := id h.dk
 refine (power_at hd).mono ?_
 rintro e w' ⟨rfl, k1, k2⟩
 exact ⟨rfl, _, rfl, h.still.andThen k2 fun g hg e => by have := h.hi g e; omega, k1, h.hi, h.plan, h.was, ⟨h.saf.st_le, h.saf.page, h.saf.trail⟩, h.byt, h.len, h.room⟩
set_option maxRecDepth 100000 in
theorem fin_open (h : FinD W d w es st A D) (hq : D.dead = false) (hm : ∀ e ∈ es, e.may = true) (hn : (streamB es).length ≤ 44 * 63) :
 Calls Tryz.prog 11 #[.pointer (some ⟨d, 0, none⟩), .int .i64 16, .int .i64 44] w (fun e w' => ∃ tp la lc es' A' D', e = .returned (.tuple #[.pointer (some ⟨tp, 0, none⟩), .slice la es'.length lc, .int .i64 0]) ∧ D'.dead = false ∧ FinD W d w' es' st A' D') := by
 have hr := h.room
 refine (open_a (n := 44) (at_ := 16) h.dk hq (PDk.fine_none h.plan) h.byt h.len (by omega) (by decide)).mono ?_
 intro e w' hp
 obtain ⟨q, hq1, hq2⟩ := h.saf.open (by show 16 + 44 ≤ _; omega) hm hn
 have hq2 : openE D 16 44 = es.take q := hq2
 obtain ⟨k1, k2⟩ := PDk.clean_plain (S := streamB (openE D 16 44)) (at_ := 16) (n := 44) hq h.plan
 obtain ⟨m1, m2, m3, m4⟩ := PDk.clean_ok (S := streamB (openE D 16 44)) (at_ := 16) (n := 44) (PDk.fine_none h.plan) hq h.was k1
 unfold OpPostA at hp
 rw [if_pos k1] at hp
 obtain ⟨tp, lv, es', A', B, C, rfl, he, h1, h2, h3, h4, h5, h6, h7, h8, h9, h10⟩ := hp
 have hfar : ∀ j : Nat, j < 16 → (D.clean 16 (streamB (openE D 16 44)) 44).2.T[j]? = D.T[j]? := fun j hj => by rw [m3, layB_other (.inl hj)]
 have hb := h2.byt
 obtain ⟨la, lc, rfl⟩ := h3.form
 have hsl := h.saf.st_le
 have hle : st ≤ es'.length := by
  rw [he, hq2, List.length_take]
  omega
 refine ⟨tp, la, lc, es', A', _, rfl, m2, h.still.andThen h4 fun g hg e => by have := h.hi g e; omega, h1, fun g hg => ?_, k2, m4, ⟨hle, fun k k0 k1 x y hx hy => ?_, fun j l hj hl => .inr ?_⟩, PDk.byt_clean h.byt (streamB_byt (by rw [he] at hb; exact hb)), ?_, ?_⟩
 · rcases h5 g hg with e | e
   · exact h.hi g e
   · have := h.still.size
     omega
 · have k1' : k < 8 := k1
   have ex : Mayb D (cfA.first + (2 * k).toNat) x := by
    rcases hx with e | e
    · rw [hfar _ (by show 0 + _ < 16; omega)] at e
      exact .inl e
    · rw [m4] at e
      cases e
   have ey : Mayb D (cfA.first + (2 * k + 1).toNat) y := by
    rcases hy with e | e
    · rw [hfar _ (by show 0 + _ < 16; omega)] at e
      exact .inl e
    · rw [m4] at e
      cases e
   exact h.saf.page k k0 k1 x y ex ey
 · have hj' : j < 44 := hj
   rcases hl with e | e
   · have e' : (D.clean 16 (streamB (openE D 16 44)) 44).2.T[16 + j]? = some l := e
     rw [m3, layB_get (by omega) hj'] at e'
     rw [he]
     exact (Option.some.inj e').symm
   · rw [m4] at e
     cases e
 · rw [m3, layB_length]
   exact h.len
 · rw [m3, layB_length]
   exact hr
theorem fin_read (h : FinD W d w es st A D) (hq : D.dead = false) (i : Nat) (hi : i < 60) :
 ∃ l, D.T[i]? = some l ∧ Byt l ∧ Calls Tryz.prog 31 #[.pointer (some ⟨d, 0, none⟩), .int .i64 i] w (fun e w' => ∃ v, e = .returned (.tuple #[v, .int .i64 0]) ∧ Vec w' 1 v 64 (bc l) ∧ Still w w' ∧ ∀ g, v.ownBlock = some g → w.heap.size ≤ g ∧ g < w'.heap.size) := by
 obtain ⟨tv, mb, vs, V, pp, hd⟩ := id h.dk
 obtain ⟨l, hl⟩ : ∃ l, D.T[i]? = some l := ⟨_, List.getElem?_eq_getElem (by have := h.room; omega)⟩
 exact ⟨l, hl, h.byt.1 l (List.mem_of_getElem? hl), read_at hd hq i l hl⟩
theorem FinD.calm {w' : World} (h : FinD W d w es st A D) (hs : Still w w') : FinD W d w' es st A D := ⟨h.still.trans hs, h.dk.still hs, h.hi, h.plan, h.was, h.saf, h.byt, h.len, h.room⟩
end
end Go.Proofs.YtlcfoeikamkpmaaGreat

namespace Go.Proofs.YtlcfoeikamkpmaaGreat
open Go.RowKit Go.Wh Go.Maps

set_option maxHeartbeats 1000000 in
theorem rsaid4 (w : World) (Q : Nat → Prop) (v : Value) (l : List Int) (h : Sl w Q 1 v 4 (bc l)) (hb : Byt l) :
 Calls Tryz.prog 92 #[v] w (SamePost w (.int .i64 (decB l))) := by
 have hl : l.length = 4 := by have := h.1; rw [bc_length] at this; omega
 obtain ⟨va, vc, rfl⟩ := h.form
 have HB := Lib.hid (And.intro h (And.intro hb hl))
 clear h hb hl
 go_enter Tryz.func92, Tryz.ntmps92
 go_wp2_with fail
 go_loopw [3, 4] (fun s3 s4 wr => ∃ k : Nat, s4 = .int .i64 k ∧ k ≤ 4 ∧ wr = w ∧ s3 = .int .i64 (decB (l.take k))) (fun _ s4 _ => 4 - (intOf s4).toNat)
 case atStart => exact ⟨0, rfl, Nat.zero_le _, rfl, rfl⟩
 case round =>
  obtain ⟨k, rfl, hk, rfl, rfl⟩ := hrel
  by_cases hi : k < 4
  · obtain ⟨z, hz⟩ : ∃ z, l[k]? = some z := ⟨_, List.getElem?_eq_getElem (by have := HB.out.2.2; omega)⟩
    obtain ⟨g, o, c, hg, -, -, hcs⟩ := HB.out.1.pos (by omega)
    cases hg
    have c0 : wr.cell? ⟨g, o + k, none⟩ = some (.int .u8 z) := hcs k _ (bc_get hz)
    have b1 : decide ((k : Int) < 4) = true := decide_eq_true (by omega)
    have b2 : decide (k < 4) = true := decide_eq_true hi
    have b3 : (0 : Int) ≤ (k : Int) := by omega
    have b4 : (k : Int) < 4 := by omega
    have u9 : IntKind.i64.wrap ((k : Int) + 1) = (k : Int) + 1 := IntWalk.i64_in _ (by omega)
    have hzb := HB.out.2.1 z (List.mem_of_getElem? hz)
    obtain ⟨z0, z1⟩ := hzb
    have hdr := numT_range (HB.out.2.1.take k)
    rw [numT_dec, List.take_take, show min 4 k = k by omega] at hdr
    obtain ⟨h0, h1⟩ := hdr
    have HSN := Lib.hid (show decB (l.take (k + 1)) = decB (l.take k) * 256 + z from by rw [List.take_add_one, hz, Option.toList_some, decB_snoc])
    generalize decB (l.take k) = v at *
    have u1 : IntKind.i64.wrap (v * 256) = v * 256 := IntWalk.i64_in _ (by omega)
    have u2 : IntKind.i64.wrap (v * 256 + z) = v * 256 + z := IntWalk.i64_in _ (by omega)
    have u3 : IntKind.i64.wrap z = z := IntWalk.i64_in _ (by omega)
    clear hcs hz
    go_wp2_with fail
    go_roundw
    case rel => exact ⟨k + 1, by go_num, by omega, trivial, by rw [HSN.out]⟩
    case measure => simp [intOf]; omega
  · have hke : k = 4 := by omega
    have HE := Lib.hid hke
    have b1 : decide ((k : Int) < 4) = false := decide_eq_false (by omega)
    have b2 : decide (k < 4) = false := decide_eq_false hi
    have F := Lib.hid (show SamePost wr (.int .i64 (decB l)) (.returned (.int .i64 (decB (l.take k)))) wr from ⟨by rw [List.take_of_length_le (by have := HB.out.2.2; have := HE.out; omega)], rfl⟩)
    generalize decB (l.take k) = v at *
    clear hke
    go_wp2_with fail
    go_ret
    exact F.out
def TxPost (w : World) (t : List Int) (e : Ending) (w' : World) : Prop := e = .returned (.tuple #[.string (strOfNums t), .bool true]) ∧ Still w w'
theorem padT_get {t r : List Int} {n i : Nat} (h1 : t.length < i) (h2 : i ≤ n) : (padT t n ++ r)[i]? = some 0 := by
 unfold padT
 obtain ⟨j, rfl⟩ : ∃ j, i = j + 1 := ⟨i - 1, by omega⟩
 rw [List.cons_append, List.getElem?_cons_succ, List.append_assoc, List.getElem?_append_right (by omega), List.getElem?_append_left (by rw [List.length_replicate]; omega), List.getElem?_replicate, if_pos (by omega)]
theorem padT_part {t r : List Int} {n : Nat} : ((padT t n ++ r).drop 1).take t.length = t := by
 unfold padT
 rw [List.cons_append, List.drop_succ_cons, List.drop_zero, List.append_assoc, List.take_left' rfl]
set_option maxHeartbeats 2000000 in
set_option maxRecDepth 100000 in
theorem rtext_ok (w : World) (Q : Nat → Prop) (v : Value) (m : Nat) (t r : List Int) (n : Nat) (h : Sl w Q 1 v m (bc (padT t n ++ r))) (hc : Cap m v) (ht : t.length ≤ n) (hn : n ≤ 8) :
 Calls Tryz.prog 93 #[v, .int .i64 n] w (TxPost w t) := by
 have hm : 1 + n ≤ m := by
  have := h.1
  rw [bc_length, List.length_append] at this
  unfold padT at this
  rw [List.length_cons, List.length_append, List.length_replicate] at this
  omega
 obtain ⟨k, hk⟩ : ∃ k, t.length = k := ⟨_, rfl⟩
 obtain ⟨pv, r0, -, -, -, hp⟩ := h.part (P := Tryz.prog) (size := 1) 22 Tryz.underlying22 (fun w => rfl) hc (show 1 ≤ 1 + k by omega) (show 1 + k ≤ m by omega)
 have hp' := hp w Q h
 have e1 : ((bc (padT t n ++ r)).drop (1 * 1)).take ((1 + k - 1) * 1) = bc t := by
  unfold bc
  rw [← List.map_drop, ← List.map_take, show (1 + k - 1) * 1 = t.length by omega, Nat.mul_one, padT_part]
 rw [e1, show 1 + k - 1 = k by omega] at hp'
 have hcv := conv_sl hp'
 obtain ⟨a, c, rfl⟩ := h.form
 have r0 : ∀ w, (Instr.slice 22 (.slice a m c) (some (.int .i64 1)) (some (.int .i64 (1 + (k : Int)))) none).run Tryz.prog w = .ok pv w := by
  intro w
  have := r0 w
  rw [show ((1 + k : Nat) : Int) = 1 + (k : Int) by omega] at this
  exact this
 obtain ⟨g, o, c', e, -, -, hcs⟩ := h.pos (by omega)
 cases e
 obtain ⟨pa, pc, rfl⟩ := hp'.form
 have c0 : w.cell? ⟨g, o, none⟩ = some (.int .u8 k) := by
  have := hcs 0 (.int .u8 k) (bc_get (by unfold padT; rw [List.cons_append, List.getElem?_cons_zero, hk]))
  exact this
 have HC := Lib.hid (fun i (h1 : k < i) (h2 : i ≤ n) => show w.cell? ⟨g, o + i, none⟩ = some (.int .u8 0) from hcs i _ (bc_get (padT_get (by omega) h2)))
 have HN := Lib.hid (And.intro (show k ≤ n by omega) (And.intro hn hm))
 have m0 : (0 : Int) < (m : Int) := by omega
 have d1 : decide ((n : Int) < (k : Int)) = false := decide_eq_false (by omega)
 have d2 : decide (n < k) = false := decide_eq_false (by omega)
 have uk : IntKind.i64.wrap (k : Int) = (k : Int) := IntWalk.i64_in _ (by omega)
 have uk1 : IntKind.i64.wrap (1 + (k : Int)) = 1 + (k : Int) := IntWalk.i64_in _ (by omega)
 have F := Lib.hid (fun w' (hs : Still w w') => show TxPost w t (.returned (.tuple #[.string (strOfNums t), .bool true])) w' from ⟨rfl, hs⟩)
 generalize strOfNums t = ZS at *
 clear h hc ht hn hm hk hp hp' e1 hcs
 go_enter Tryz.func93, Tryz.ntmps93
 go_wp2_with fail
 go_loopw [7] (fun s7 wr => ∃ i : Nat, s7 = .int .i64 i ∧ k < i ∧ i ≤ n + 1 ∧ w = wr) (fun s7 _ => n + 1 - (intOf s7).toNat)
 case atStart => exact ⟨1 + k, by go_num, by omega, by have := HN.out; omega, rfl⟩
 obtain ⟨i, rfl, hki, hi, rfl⟩ := hrel
 by_cases hin : i ≤ n
 · have q1 : decide ((i : Int) ≤ (n : Int)) = true := decide_eq_true (by omega)
   have q2 : decide (i ≤ n) = true := decide_eq_true hin
   have ci := HC.out i hki hin
   have i0 : (0 : Int) ≤ (i : Int) := by omega
   have i1 : (i : Int) < (m : Int) := by have := HN.out; omega
   have ui : IntKind.i64.wrap ((i : Int) + 1) = (i : Int) + 1 := IntWalk.i64_in _ (by have := HN.out; omega)
   have HI := Lib.hid (And.intro hki hin)
   clear hki hi hin
   go_wp2_with fail
   go_roundw
   case rel => exact ⟨i + 1, by go_num, by have := HI.out; omega, by have := HI.out; omega, trivial⟩
   case measure => simp [intOf]; have := HI.out; omega
 · have q1 : decide ((i : Int) ≤ (n : Int)) = false := decide_eq_false (by omega)
   have q2 : decide (i ≤ n) = false := decide_eq_false hin
   clear hki hi hin
   go_wp2_with fail
   go_ret2
   exact F.out _ (Still.refl _)
end Go.Proofs.YtlcfoeikamkpmaaGreat

namespace Go.Proofs.YtlcfoeikamkpmaaGreat
open Go.RowKit Go.Wh Go.Maps

def RrPost (w : World) (e : Ending) (w' : World) : Prop := ∃ (k : Int) (s0 s1 s2 : ByteArray) (p c : Int), e = .returned (.tuple #[.int .i64 k, .agg #[.string s0, .string s1, .string s2], .agg #[.int .i64 p, .int .i64 c], .int .i64 0]) ∧ Still w w'
theorem nought_rep {l : List Int} (h : nought l = true) : l = List.replicate l.length 0 := by
 refine List.eq_replicate_of_mem fun x hx => ?_
 have := List.all_eq_true.1 h x hx
 simpa using this
theorem rowT_form {l : List Int} (hb : Byt l) (h : rowT l = true) : ∃ a b c : List Int, Byt a ∧ Byt b ∧ Byt c ∧ 0 < a.length ∧ a.length ≤ 8 ∧ b.length ≤ 6 ∧ c.length ≤ 8 ∧ l = 1 :: (padT a 8 ++ padT b 6 ++ padT c 8) := by
 unfold rowT at h
 rw [Bool.and_eq_true] at h
 obtain ⟨h1, h2⟩ := h
 refine ⟨_, _, _, partT_byt hb 1 8, partT_byt hb 10 6, partT_byt hb 17 8, ?_, partT_len l 1 8, partT_len l 10 6, partT_len l 17 8, beq_iff_eq.1 h2⟩
 cases e : partT l 1 8 with
 | nil => rw [e] at h1; cases h1
 | cons => simp
theorem padT_length {a : List Int} {n : Nat} (h : a.length ≤ n) : (padT a n).length = n + 1 := by
 unfold padT
 simp
 omega
set_option maxHeartbeats 4000000 in
set_option maxRecDepth 100000 in
theorem rread_ok {Q : Nat → Prop} (w : World) (v : Value) (l : List Int) (h : Sl w Q 1 v 26 (bc l)) (hc : Cap 26 v) (hb : Byt l) (hr : nought l = true ∨ rowT l = true) :
 Calls Tryz.prog 65 #[v] w (RrPost w) := by
 have hln : l.length = 26 := by have := h.1; rw [bc_length] at this; omega
 have HZ := Lib.hid (fun tt tt2 => show Still w ((w.alloc (.cells #[.string ⟨#[]⟩, .string ⟨#[]⟩, .string ⟨#[]⟩] tt)).alloc (.cells #[.int .i64 0, .int .i64 0] tt2)) ∧ cellsAt ((w.alloc (.cells #[.string ⟨#[]⟩, .string ⟨#[]⟩, .string ⟨#[]⟩] tt)).alloc (.cells #[.int .i64 0, .int .i64 0] tt2)) w.heap.size [.string ⟨#[]⟩, .string ⟨#[]⟩, .string ⟨#[]⟩] ∧ cellsAt ((w.alloc (.cells #[.string ⟨#[]⟩, .string ⟨#[]⟩, .string ⟨#[]⟩] tt)).alloc (.cells #[.int .i64 0, .int .i64 0] tt2)) (w.heap.size + 1) [.int .i64 0, .int .i64 0] from by
  have hz : (w.alloc (.cells #[.string ⟨#[]⟩, .string ⟨#[]⟩, .string ⟨#[]⟩] tt)).heap.size = w.heap.size + 1 := by simp
  refine ⟨((Still.refl w).alloc _).alloc _, (cellsAt_new w [.string ⟨#[]⟩, .string ⟨#[]⟩, .string ⟨#[]⟩] tt).alloc _, ?_⟩
  have := cellsAt_new (w.alloc (.cells #[.string ⟨#[]⟩, .string ⟨#[]⟩, .string ⟨#[]⟩] tt)) [.int .i64 0, .int .i64 0] tt2
  rw [hz] at this
  exact this)
 have HE := Lib.hid (str_eq hb (show Byt (List.replicate 26 0) from fun z hz => by rw [List.eq_of_mem_replicate hz]; decide))
 obtain ⟨q, hq⟩ : ∃ q, ((strOfNums l).toList == (strOfNums (List.replicate 26 0)).toList) = q := ⟨_, rfl⟩
 have HQ := Lib.hid (show q = decide (l = List.replicate 26 0) from by rw [← hq]; exact HE.out)
 have HC := Lib.hid (fun w' (hs : Still w w') => conv_sl (h.still hs))
 have HL := Lib.hid (And.intro hln (And.intro hb (And.intro hr (And.intro h hc))))
 obtain ⟨a, c, rfl⟩ := h.form
 clear h hc hb hr HE hln
 go_enter Tryz.func65, Tryz.ntmps65
 go_upto_region 1 with fail
 have hz := HZ.out 60 64
 clear HZ
 generalize ((w.alloc (.cells #[.string ⟨#[]⟩, .string ⟨#[]⟩, .string ⟨#[]⟩] 60)).alloc (.cells #[.int .i64 0, .int .i64 0] 64)) = w1 at *
 obtain ⟨bR, hb1⟩ : ∃ b, w.heap.size = b := ⟨_, rfl⟩
 obtain ⟨bT, hb2⟩ : ∃ b, w.heap.size + 1 = b := ⟨_, rfl⟩
 rw [hb2, hb1] at hz
 rw [hb2, hb1]
 have H1 := Lib.hid (And.intro hz (And.intro hb1 hb2))
 have hmk : ∀ w : World, (Instr.makeSlice 22 (.int .i64 26) (.int .i64 26)).run Tryz.prog w = .ok (.slice (some ⟨w.heap.size, 0, none⟩) 26 26) (w.alloc (.cells (bc (List.replicate 26 0)).toArray 5)) := make26
 have hcz : ∀ w : World, (convert 22 9 (.slice (some ⟨w.heap.size, 0, none⟩) 26 26)).run Tryz.prog (w.alloc (.cells (bc (List.replicate 26 0)).toArray 5)) = .ok (.string (strOfNums (List.replicate 26 0))) (w.alloc (.cells (bc (List.replicate 26 0)).toArray 5)) := fun w => conv_sl (Q := fun _ => True) (l := List.replicate 26 0) (by
  have h := cellsAt_new w (bc (List.replicate 26 0)) 5
  exact ⟨by rw [bc_length]; rfl, .inr ⟨w.heap.size, 0, 26, rfl, fun _ => ⟨trivial, h.lt⟩, fun j u hj => by rw [Nat.zero_add]; exact (h.cell j).trans hj⟩⟩)
 have hcy : ∀ w : World, (convert 22 9 (.slice (some ⟨w.heap.size, 0, none⟩) 26 26)).run Tryz.prog (w.alloc (.cells (bc (List.replicate 26 0)).toArray 5)).drew = .ok (.string (strOfNums (List.replicate 26 0))) (w.alloc (.cells (bc (List.replicate 26 0)).toArray 5)).drew := fun w => conv_sl (Q := fun _ => True) (l := List.replicate 26 0) (by
  have h := cellsAt_new w (bc (List.replicate 26 0)) 5
  exact ⟨by rw [bc_length]; rfl, .inr ⟨w.heap.size, 0, 26, rfl, fun _ => ⟨trivial, h.lt⟩, fun j u hj => by rw [Nat.zero_add]; exact (h.cell j).trans hj⟩⟩)
 have hcv0 := HC.out w1 H1.out.1.1
 have hcv1 := HC.out w1.drew (H1.out.1.1.trans (still_drew w1))
 have hcv2 : ∀ o, (convert 22 9 (.slice a 26 c)).run Tryz.prog (w1.drew.alloc o) = .ok (.string (strOfNums l)) (w1.drew.alloc o) := fun o => HC.out _ (H1.out.1.1.trans ((still_drew w1).alloc o))
 have hcv3 : ∀ o, (convert 22 9 (.slice a 26 c)).run Tryz.prog (w1.alloc o) = .ok (.string (strOfNums l)) (w1.alloc o) := fun o => HC.out _ (H1.out.1.1.trans ((Still.refl w1).alloc o))
 have hcv4 : ∀ o, (convert 22 9 (.slice a 26 c)).run Tryz.prog (w1.alloc o).drew = .ok (.string (strOfNums l)) (w1.alloc o).drew := fun o => HC.out _ (H1.out.1.1.trans ((Still.refl w1).alloc o).drew)
 have HS2 := Lib.hid (fun o => show Still w (w1.alloc o).drew ∧ cellsAt (w1.alloc o).drew bR [.string ⟨#[]⟩, .string ⟨#[]⟩, .string ⟨#[]⟩] ∧ cellsAt (w1.alloc o).drew bT [.int .i64 0, .int .i64 0] from by
  obtain ⟨z1, z2, z3⟩ := H1.out.1
  have hs := ((Still.refl w1).alloc o).drew
  exact ⟨z1.trans hs, z2.only hs fun e => e, z3.only hs fun e => e⟩)
 generalize (bc (List.replicate 26 0)).toArray = Z26 at *
 generalize strOfNums (List.replicate 26 0) = ZS at *
 generalize strOfNums l = LS at *
 clear hz hb1 hb2
 go_region
 have hs2 := HS2.out (.cells Z26 5)
 generalize (w1.alloc (.cells Z26 5)).drew = w2 at *
 have H2 := Lib.hid hs2
 clear hs2 hmk hcz hcy hcv0 hcv1 hcv2 hcv3 hcv4 HS2 HC
 cases q with
 | true =>
  go_wp2_with (first
   | ((with_reducible (show wpList _ _ _ ({ dst := none, op := Op.store 60 _ _, type := _, pos := _, after := _, guard := _ } :: _) _ _)); (refine wpList_storeAgg rfl 60 _ _ rfl bR #[.string ⟨#[]⟩, .string ⟨#[]⟩, .string ⟨#[]⟩] rfl rfl H2.out.2.1 size_row rfl rfl ?_; intro w3 hcf hof hzf; have H3 := Lib.hid (And.intro hcf (And.intro hof hzf)); have H3t := Lib.hid (H2.out.2.2.only hof (fun e => by have := H1.out.2; have e' : bT = bR := e; omega)); clear hcf hof hzf))
   | ((with_reducible (show wpList _ _ _ ({ dst := none, op := Op.store 64 _ _, type := _, pos := _, after := _, guard := _ } :: _) _ _)); (refine wpList_storeAgg rfl 64 _ _ rfl bT #[.int .i64 0, .int .i64 0] rfl rfl H3t.out size_rid rfl rfl ?_; intro w4 hcf hof hzf; have H4 := Lib.hid (And.intro hcf (And.intro hof hzf)); clear hcf hof hzf)))
  have hR := H3.out.1.only H4.out.2.1 (fun e => by have := H1.out.2; have e' : bR = bT := e; omega)
  have z0 : w4.cell? ⟨bR, 0, none⟩ = some (.string ⟨#[]⟩) := hR.cell 0
  have z1 : w4.cell? ⟨bR, 1, none⟩ = some (.string ⟨#[]⟩) := hR.cell 1
  have z2 : w4.cell? ⟨bR, 2, none⟩ = some (.string ⟨#[]⟩) := hR.cell 2
  have y0 : w4.cell? ⟨bT, 0, none⟩ = some (.int .i64 0) := H4.out.1.cell 0
  have y1 : w4.cell? ⟨bT, 1, none⟩ = some (.int .i64 0) := H4.out.1.cell 1
  have F2 := Lib.hid (show RrPost w (.returned (.tuple #[.int .i64 0, .agg #[.string ⟨#[]⟩, .string ⟨#[]⟩, .string ⟨#[]⟩], .agg #[.int .i64 0, .int .i64 0], .int .i64 0])) w4 from ⟨_, _, _, _, _, _, rfl, (H2.out.1.andThen H3.out.2.1 fun g hg e => by have := H1.out.2; have e' : g = bR := e; omega).andThen H4.out.2.1 fun g hg e => by have := H1.out.2; have e' : g = bT := e; omega⟩)
  exact bodyPost_ret (v := .tuple #[.int .i64 0, .agg #[.string ⟨#[]⟩, .string ⟨#[]⟩, .string ⟨#[]⟩], .agg #[.int .i64 0, .int .i64 0], .int .i64 0]) (by simp [results, Tryz.results65, go_sem, z0, z1, z2, y0, y1]) rfl F2.out
 | false =>
  have hrow : rowT l = true := by
   rcases HL.out.2.2.1 with e | e
   · have e2 := nought_rep e
     rw [HL.out.1] at e2
     have := HQ.out
     rw [decide_eq_true e2] at this
     cases this
   · exact e
  obtain ⟨A, B, C, ha, hb, hc, a0, a8, b6, c8, hl⟩ := rowT_form HL.out.2.1 hrow
  have HA := Lib.hid (And.intro ha (And.intro hb (And.intro hc (And.intro a0 (And.intro a8 (And.intro b6 (And.intro c8 hl)))))))
  obtain ⟨p1, -, -, r1, k1, g1⟩ := HL.out.2.2.2.1.part (P := Tryz.prog) (size := 1) 22 Tryz.underlying22 (fun w => rfl) HL.out.2.2.2.2 (show 1 ≤ 26 by decide) (Nat.le_refl 26)
  obtain ⟨p2, -, -, r2, k2, g2⟩ := HL.out.2.2.2.1.part (P := Tryz.prog) (size := 1) 22 Tryz.underlying22 (fun w => rfl) HL.out.2.2.2.2 (show 10 ≤ 26 by decide) (Nat.le_refl 26)
  obtain ⟨p3, -, -, r3, k3, g3⟩ := HL.out.2.2.2.1.part (P := Tryz.prog) (size := 1) 22 Tryz.underlying22 (fun w => rfl) HL.out.2.2.2.2 (show 17 ≤ 26 by decide) (Nat.le_refl 26)
  have q1 := g1 w Q HL.out.2.2.2.1
  have q2 := g2 w Q HL.out.2.2.2.1
  have q3 := g3 w Q HL.out.2.2.2.1
  have d1 : l.drop 1 = padT A 8 ++ (padT B 6 ++ padT C 8) := by rw [hl, List.drop_succ_cons, List.drop_zero, List.append_assoc]
  have d2 : l.drop 10 = padT B 6 ++ padT C 8 := by
   rw [show (10 : Nat) = 1 + 9 from rfl, ← List.drop_drop, d1, show (9 : Nat) = (padT A 8).length from (padT_length a8).symm, List.drop_left]
  have d3 : l.drop 17 = padT C 8 ++ [] := by
   rw [show (17 : Nat) = 10 + 7 from rfl, ← List.drop_drop, d2, show (7 : Nat) = (padT B 6).length from (padT_length b6).symm, List.drop_left, List.append_nil]
  have e1 : ((bc l).drop (1 * 1)).take ((26 - 1) * 1) = bc (l.drop 1) := by
   unfold bc
   rw [← List.map_drop, List.take_of_length_le (by rw [List.length_map, List.length_drop, HL.out.1]; decide)]
  have e2 : ((bc l).drop (10 * 1)).take ((26 - 10) * 1) = bc (l.drop 10) := by
   unfold bc
   rw [← List.map_drop, List.take_of_length_le (by rw [List.length_map, List.length_drop, HL.out.1]; decide)]
  have e3 : ((bc l).drop (17 * 1)).take ((26 - 17) * 1) = bc (l.drop 17) := by
   unfold bc
   rw [← List.map_drop, List.take_of_length_le (by rw [List.length_map, List.length_drop, HL.out.1]; decide)]
  rw [e1, d1] at q1
  rw [e2, d2] at q2
  rw [e3, d3] at q3
  have HT1 := Lib.hid (fun w' (hs : Still w w') => rtext_ok w' Q p1 25 A _ 8 (q1.still hs) k1 a8 (by decide))
  have HT2 := Lib.hid (fun w' (hs : Still w w') => rtext_ok w' Q p2 16 B _ 6 (q2.still hs) k2 b6 (by decide))
  have HT3 := Lib.hid (fun w' (hs : Still w w') => rtext_ok w' Q p3 9 C _ 8 (q3.still hs) k3 c8 (by decide))
  obtain ⟨g, o, cc, he, -, -, hcs⟩ := HL.out.2.2.2.1.pos (by decide)
  cases he
  have c0 : w2.cell? ⟨g, o, none⟩ = some (.int .u8 1) := Still.cell H2.out.1 (hcs 0 (.int .u8 1) (bc_get (by rw [hl]; rfl)))
  obtain ⟨pa1, pc1, rfl⟩ := q1.form
  obtain ⟨pa2, pc2, rfl⟩ := q2.form
  obtain ⟨pa3, pc3, rfl⟩ := q3.form
  have r1 : ∀ w, (Instr.slice 22 (.slice (some ⟨g, o, none⟩) 26 c) (some (.int .i64 1)) none none).run Tryz.prog w = .ok (.slice pa1 25 pc1) w := r1 rfl
  have r2 : ∀ w, (Instr.slice 22 (.slice (some ⟨g, o, none⟩) 26 c) (some (.int .i64 10)) none none).run Tryz.prog w = .ok (.slice pa2 16 pc2) w := r2 rfl
  have r3 : ∀ w, (Instr.slice 22 (.slice (some ⟨g, o, none⟩) 26 c) (some (.int .i64 17)) none none).run Tryz.prog w = .ok (.slice pa3 9 pc3) w := r3 rfl
  have hz1 := str_size A
  obtain ⟨an, han⟩ : ∃ k, A.length = k := ⟨_, rfl⟩
  rw [han] at hz1 a0
  have HSZ := Lib.hid hz1
  have t0 : decide ((0 : Int) < ((strOfNums A).size : Int)) = true := decide_eq_true (by rw [hz1]; omega)
  have t1 : decide (0 < (strOfNums A).size) = true := decide_eq_true (by rw [hz1]; omega)
  have t2 : (0 : Int) < ((strOfNums A).size : Int) := by rw [hz1]; omega
  have t3 : 0 < (strOfNums A).size := by rw [hz1]; omega
  clear ha hb hc a8 b6 c8 hl hrow g1 g2 g3 k1 k2 k3 q1 q2 q3 d1 d2 d3 e1 e2 e3 hcs HA HL hz1 a0 han
  go_wp2_with fail
  refine (HT1.out _ H2.out.1).mono ?_
  rintro en w3 ⟨rfl, hs3⟩
  have H3 := Lib.hid (And.intro (H2.out.1.trans hs3) (And.intro (H2.out.2.1.only hs3 fun e => e) (H2.out.2.2.only hs3 fun e => e)))
  clear hs3 HT1 c0
  go_wp2_with fail
  refine (HT2.out _ H3.out.1).mono ?_
  rintro en w4 ⟨rfl, hs4⟩
  have H4 := Lib.hid (And.intro (H3.out.1.trans hs4) (And.intro (H3.out.2.1.only hs4 fun e => e) (H3.out.2.2.only hs4 fun e => e)))
  clear hs4 HT2 H3
  go_wp2_with fail
  refine (HT3.out _ H4.out.1).mono ?_
  rintro en w5 ⟨rfl, hs5⟩
  have H5 := Lib.hid (And.intro (H4.out.1.trans hs5) (And.intro (H4.out.2.1.only hs5 fun e => e) (H4.out.2.2.only hs5 fun e => e)))
  clear hs5 HT3 H4
  go_wp2_with (first
   | ((with_reducible (show wpList _ _ _ ({ dst := none, op := Op.store 60 _ _, type := _, pos := _, after := _, guard := _ } :: _) _ _)); (refine wpList_storeAgg rfl 60 _ _ rfl bR #[.string (strOfNums A), .string (strOfNums B), .string (strOfNums C)] rfl rfl H5.out.2.1 size_row rfl rfl ?_; intro w6 hcf hof hzf; have H6 := Lib.hid (And.intro hcf (And.intro hof hzf)); have H6t := Lib.hid (H5.out.2.2.only hof (fun e => by have := H1.out.2; have e' : bT = bR := e; omega)); clear hcf hof hzf))
   | ((with_reducible (show wpList _ _ _ ({ dst := none, op := Op.store 64 _ _, type := _, pos := _, after := _, guard := _ } :: _) _ _)); (refine wpList_storeAgg rfl 64 _ _ rfl bT #[.int .i64 0, .int .i64 0] rfl rfl H6t.out size_rid rfl rfl ?_; intro w7 hcf hof hzf; have H7 := Lib.hid (And.intro hcf (And.intro hof hzf)); clear hcf hof hzf)))
  have hR := H6.out.1.only H7.out.2.1 (fun e => by have := H1.out.2; have e' : bR = bT := e; omega)
  have z0 : w7.cell? ⟨bR, 0, none⟩ = some (.string (strOfNums A)) := hR.cell 0
  have z1 : w7.cell? ⟨bR, 1, none⟩ = some (.string (strOfNums B)) := hR.cell 1
  have z2 : w7.cell? ⟨bR, 2, none⟩ = some (.string (strOfNums C)) := hR.cell 2
  have y0 : w7.cell? ⟨bT, 0, none⟩ = some (.int .i64 0) := H7.out.1.cell 0
  have y1 : w7.cell? ⟨bT, 1, none⟩ = some (.int .i64 0) := H7.out.1.cell 1
  have F2 := Lib.hid (show RrPost w (.returned (.tuple #[.int .i64 1, .agg #[.string (strOfNums A), .string (strOfNums B), .string (strOfNums C)], .agg #[.int .i64 0, .int .i64 0], .int .i64 0])) w7 from ⟨_, _, _, _, _, _, rfl, (H5.out.1.andThen H6.out.2.1 fun g hg e => by have := H1.out.2; have e' : g = bR := e; omega).andThen H7.out.2.1 fun g hg e => by have := H1.out.2; have e' : g = bT := e; omega⟩)
  exact bodyPost_ret (v := .tuple #[.int .i64 1, .agg #[.string (strOfNums A), .string (strOfNums B), .string (strOfNums C)], .agg #[.int .i64 0, .int .i64 0], .int .i64 0]) (by simp [results, Tryz.results65, go_sem, z0, z1, z2, y0, y1]) rfl F2.out
end Go.Proofs.YtlcfoeikamkpmaaGreat

namespace Go.Proofs.YtlcfoeikamkpmaaGreat
open Go.RowKit Go.Wh Go.Maps

theorem decB_inj4 {a b : List Int} (ha : Byt a) (hb : Byt b) (la : a.length = 4) (lb : b.length = 4) (h : decB a = decB b) : a = b := by
 match a, la with
 | [a0, a1, a2, a3], _ =>
  match b, lb with
  | [b0, b1, b2, b3], _ =>
   have e : ((a0 * 256 + a1) * 256 + a2) * 256 + a3 = ((b0 * 256 + b1) * 256 + b2) * 256 + b3 := by
    have e1 : decB [a0, a1, a2, a3] = (((0 * 256 + a0) * 256 + a1) * 256 + a2) * 256 + a3 := rfl
    have e2 : decB [b0, b1, b2, b3] = (((0 * 256 + b0) * 256 + b1) * 256 + b2) * 256 + b3 := rfl
    rw [e1, e2] at h
    omega
   have h0 := ha a0 (by simp)
   have h1 := ha a1 (by simp)
   have h2 := ha a2 (by simp)
   have h3 := ha a3 (by simp)
   have k0 := hb b0 (by simp)
   have k1 := hb b1 (by simp)
   have k2 := hb b2 (by simp)
   have k3 := hb b3 (by simp)
   have : a0 = b0 ∧ a1 = b1 ∧ a2 = b2 ∧ a3 = b3 := by omega
   obtain ⟨rfl, rfl, rfl, rfl⟩ := this
   rfl
theorem head_eq {a b : List Int} (ha : Byt a) (hb : Byt b) (la : a.length = 64) (lb : b.length = 64) : ((strOfNums (a.take 4)).toList == (strOfNums (b.take 4)).toList) = decide (numT a = numT b) := by
 rw [str_eq (ha.take 4) (hb.take 4)]
 refine decide_eq_decide.2 ⟨fun e => by rw [numT_dec, numT_dec, e], fun e => ?_⟩
 rw [numT_dec, numT_dec] at e
 exact decB_inj4 (ha.take 4) (hb.take 4) (by rw [List.length_take]; omega) (by rw [List.length_take]; omega) e
theorem numT_head {a : List Int} (ha : Byt a) (la : a.length = 64) : ∃ z, a[0]? = some z ∧ 0 ≤ z ∧ z ≤ 255 ∧ (numT a ≤ 2147483647 → z ≤ 127) := by
 match a, la with
 | a0 :: a1 :: a2 :: a3 :: r, _ =>
  have h0 := ha a0 (by simp)
  have h1 := ha a1 (by simp)
  have h2 := ha a2 (by simp)
  have h3 := ha a3 (by simp)
  refine ⟨a0, rfl, h0.1, h0.2, fun e => ?_⟩
  have e1 : numT (a0 :: a1 :: a2 :: a3 :: r) = (((0 * 256 + a0) * 256 + a1) * 256 + a2) * 256 + a3 := rfl
  rw [e1] at e
  omega
def TsPost (w : World) (a b : List Int) (e : Ending) (w' : World) : Prop :=
 if numT a ≠ numT b then e = .returned (.tuple #[.int .i64 0, .slice none 0 0, .int .i64 3]) ∧ Still w w'
 else ∃ v, e = .returned (.tuple #[.int .i64 (numT a), v, .int .i64 0]) ∧ Vec w' 1 v 120 (bc (a.drop 4 ++ b.drop 4)) ∧ Still w w' ∧ ∀ g, v.ownBlock = some g → w.heap.size ≤ g ∧ g < w'.heap.size
set_option maxHeartbeats 4000000 in
set_option maxRecDepth 100000 in
theorem rtsheet_ok {Q1 Q2 : Nat → Prop} (w : World) (v u : Value) (a b : List Int) (h : Sl w Q1 1 v 64 (bc a)) (hc : Cap 64 v) (hb : Byt a) (k : Sl w Q2 1 u 64 (bc b)) (kc : Cap 64 u) (kb : Byt b) (hok : numT a = numT b → numT a ≤ 2147483647) :
 Calls Tryz.prog 64 #[v, u] w (TsPost w a b) := by
 obtain ⟨ti, hi0, hi1, hi2, hi3⟩ := info_parts info_b
 have HI := Lib.hid (And.intro hi0 (And.intro hi1 (And.intro hi2 hi3)))
 have hla : a.length = 64 := by have := h.1; rw [bc_length] at this; omega
 have hlb : b.length = 64 := by have := k.1; rw [bc_length] at this; omega
 obtain ⟨pv, -, -, r1, -, hp⟩ := h.part (P := Tryz.prog) (size := 1) 22 Tryz.underlying22 (fun w => rfl) hc (show 4 ≤ 64 by decide) (Nat.le_refl 64)
 obtain ⟨qv, -, -, r2, -, hq⟩ := k.part (P := Tryz.prog) (size := 1) 22 Tryz.underlying22 (fun w => rfl) kc (show 4 ≤ 64 by decide) (Nat.le_refl 64)
 obtain ⟨xv, -, r3, -, -, hx⟩ := h.part (P := Tryz.prog) (size := 1) 22 Tryz.underlying22 (fun w => rfl) hc (show 0 ≤ 4 by decide) (show 4 ≤ 64 by decide)
 obtain ⟨yv, -, r4, -, -, hy⟩ := k.part (P := Tryz.prog) (size := 1) 22 Tryz.underlying22 (fun w => rfl) kc (show 0 ≤ 4 by decide) (show 4 ≤ 64 by decide)
 have hp' := hp w Q1 h
 have hq' := hq w Q2 k
 have hx' := hx w Q1 h
 have hy' := hy w Q2 k
 have e1 : ((bc a).drop (4 * 1)).take ((64 - 4) * 1) = bc (a.drop 4) := by
  unfold bc
  rw [← List.map_drop, List.take_of_length_le (by rw [List.length_map, List.length_drop, hla]; decide)]
 have e2 : ((bc b).drop (4 * 1)).take ((64 - 4) * 1) = bc (b.drop 4) := by
  unfold bc
  rw [← List.map_drop, List.take_of_length_le (by rw [List.length_map, List.length_drop, hlb]; decide)]
 have e3 : ((bc a).drop (0 * 1)).take ((4 - 0) * 1) = bc (a.take 4) := by unfold bc; rw [Nat.zero_mul, List.drop_zero, List.map_take]
 have e4 : ((bc b).drop (0 * 1)).take ((4 - 0) * 1) = bc (b.take 4) := by unfold bc; rw [Nat.zero_mul, List.drop_zero, List.map_take]
 rw [e1] at hp'
 rw [e2] at hq'
 rw [e3] at hx'
 rw [e4] at hy'
 obtain ⟨z0, hz0, z0a, z0b, z0c⟩ := numT_head hb hla
 obtain ⟨g, o, cc, he, -, -, hcs⟩ := h.pos (by decide)
 cases he
 have c0 : w.cell? ⟨g, o, none⟩ = some (.int .u8 z0) := hcs 0 _ (bc_get hz0)
 have HC0 := Lib.hid (fun w' (hs : Still w w') => Still.cell hs c0)
 obtain ⟨ua, uc, rfl⟩ := k.form
 have r1 : ∀ w, (Instr.slice 22 (.slice (some ⟨g, o, none⟩) 64 cc) (some (.int .i64 4)) none none).run Tryz.prog w = .ok pv w := r1 rfl
 have r2 : ∀ w, (Instr.slice 22 (.slice ua 64 uc) (some (.int .i64 4)) none none).run Tryz.prog w = .ok qv w := r2 rfl
 have r3 : ∀ w, (Instr.slice 22 (.slice (some ⟨g, o, none⟩) 64 cc) none (some (.int .i64 4)) none).run Tryz.prog w = .ok xv w := r3 rfl
 have r4 : ∀ w, (Instr.slice 22 (.slice ua 64 uc) none (some (.int .i64 4)) none).run Tryz.prog w = .ok yv w := r4 rfl
 obtain ⟨pa, pc, rfl⟩ := hp'.form
 obtain ⟨qa, qc, rfl⟩ := hq'.form
 obtain ⟨xa, xc, rfl⟩ := hx'.form
 obtain ⟨ya, yc, rfl⟩ := hy'.form
 have HP := Lib.hid (And.intro hp' (And.intro hq' hx'))
 have HCV := Lib.hid (fun w' (hs : Still w w') => And.intro (conv_sl (hx'.still hs)) (conv_sl (hy'.still hs)))
 have HSD := Lib.hid (fun w' (hs : Still w w') => show Calls Tryz.prog 92 #[.slice xa 4 xc] w' (SamePost w' (.int .i64 (numT a))) from rsaid4 w' Q1 _ (a.take 4) (hx'.still hs) (hb.take 4))
 have HEQ := Lib.hid (head_eq hb kb hla hlb)
 obtain ⟨q, hqq⟩ : ∃ q, ((strOfNums (a.take 4)).toList == (strOfNums (b.take 4)).toList) = q := ⟨_, rfl⟩
 have HQ := Lib.hid (show q = decide (numT a = numT b) from by rw [← hqq]; exact HEQ.out)
 have HOK := Lib.hid (And.intro hok z0c)
 have SS := Lib.hid (fun w' (hs : Still w w') => show (convert 22 9 (.slice xa (4 - 0) xc)).run Tryz.prog w' = .ok (.string (strOfNums (a.take 4))) w' ∧ (convert 22 9 (.slice ya (4 - 0) yc)).run Tryz.prog w' = .ok (.string (strOfNums (b.take 4))) w' from HCV.out w' hs)
 simp only [Nat.sub_zero] at r3 r4 SS
 generalize strOfNums (a.take 4) = XS at *
 generalize strOfNums (b.take 4) = YS at *
 clear h hc hb k kc kb hp hq hx hy hp' hq' hx' hy' e1 e2 e3 e4 hla hlb hz0 hcs c0 hok z0c HEQ hi0 hi1 hi2 hi3
 go_enter Tryz.func64, Tryz.ntmps64
 go_upto_region 3 with fail
 go_region_held3 (fun w' => (convert 22 9 (.slice xa 4 xc)).run Tryz.prog w' = .ok (.string XS) w' ∧ (convert 22 9 (.slice ya 4 yc)).run Tryz.prog w' = .ok (.string YS) w') (first | exact SS.out _ (still_drew _) | exact SS.out _ (by assumption)) (fail)
 have hsd : Still w w.drew := still_drew w
 generalize w.drew = w1 at *
 have HS1 := Lib.hid hsd
 clear hsd
 cases q with
 | false =>
  have hne : numT a ≠ numT b := of_decide_eq_false HQ.out.symm
  have F := Lib.hid (show TsPost w a b (.returned (.tuple #[.int .i64 0, .slice none 0 0, .int .i64 3])) w1 from by
   unfold TsPost
   rw [if_pos hne]
   exact ⟨rfl, HS1.out⟩)
  clear hne
  go_wp2_with fail
  go_ret3
  exact F.out
 | true =>
  have heq : numT a = numT b := of_decide_eq_true HQ.out.symm
  have HE := Lib.hid heq
  have hz := HOK.out.2 (HOK.out.1 heq)
  have d1 : decide (127 < z0) = false := decide_eq_false (by omega)
  have c0 := HC0.out w1 HS1.out
  clear heq hz
  go_upto_region 7 with fail
  refine wp_region_D_drew (D := (fun i => false)) (S := (fun _ => True)) (by kernel_rfl) trivial (fun hHeld => ?_)
  have hsw : Still w w1.drew := HS1.out.trans (still_drew w1)
  have HCN := Lib.hid (fun tt => cellsAt_new w1.drew [] tt)
  generalize w1.drew = w2 at *
  have HS2 := Lib.hid hsw
  clear hsw c0
  have HV0 := Lib.hid (show Vec (w2.alloc (.cells #[] 5)) 1 (.slice (some ⟨w2.heap.size, 0, none⟩) 0 0) 0 [] from Vec.none_ _ _ _ _)
  have HZA := Lib.hid (show (w2.alloc (.cells #[] 5)).heap.size = w2.heap.size + 1 by simp)
  have HSA := Lib.hid (show Still w2 (w2.alloc (.cells #[] 5)) from (Still.refl _).alloc _)
  (refine takeS (i := 0) (some 26) (v := ?_) rfl (by rfl) (by rfl) (by kernel_rfl) (by rfl) (fun _ _ _ h => h) hHeld ?_ ?_; rotate_left; (intro w hSw; go_simp; try with_reducible rfl); try go_frame)
  (refine takeS (i := 1) (some 27) (v := ?_) rfl (by rfl) (by rfl) (by kernel_rfl) (by rfl) (fun _ _ _ h => h) hHeld ?_ ?_; rotate_left; (intro w hSw; go_simp; try with_reducible rfl); try go_frame)
  (refine takeS (i := 4) (some 30) (v := ?_) rfl (by rfl) (by rfl) (by kernel_rfl) (by rfl) (fun _ _ _ h => h) hHeld ?_ ?_; rotate_left; (intro w hSw; go_simp; try with_reducible rfl); try go_frame)
  (refine takeS (i := 5) (some 31) (v := ?_) rfl (by rfl) (by rfl) (by kernel_rfl) (by rfl) (fun _ _ _ h => h) hHeld ?_ ?_; rotate_left; (intro w hSw; go_simp; try with_reducible rfl); try go_frame)
  (refine takeS (i := 7) (some 33) (v := ?_) rfl (by rfl) (by rfl) (by kernel_rfl) (by rfl) (fun _ _ _ h => h) hHeld ?_ ?_; rotate_left; (intro w hSw; go_simp; try with_reducible rfl); try go_frame)
  (refine takeS (i := 8) (some 34) (v := ?_) rfl (by rfl) (by rfl) (by kernel_rfl) (by rfl) (fun _ _ _ h => h) hHeld ?_ ?_; rotate_left; (intro w hSw; go_simp; try with_reducible rfl); try go_frame)
  refine wpAnyD_ready (rs := [2, 3]) (by kernel_rfl) (by simp) ?_
  refine ReadyD.cons rfl (fun K hK => ?_) (ReadyD.cons rfl (fun K hK => ?_) ReadyD.nil)
  · go_simp
    (go_at_call 92; (with_reducible refine (HSD.out w2 HS2.out).mono ?_))
    rintro e w5 ⟨rfl, hw5⟩
    rw [show w5 = w2 from hw5]
    clear hw5
    go_wp2_with fail
    refine hK.out _ _ trivial (fun _ => ?_)
    (clear hK K; try go_frame)
    refine wpAnyD_ready (rs := [3]) (by kernel_rfl) (by simp) ?_
    refine ReadyD.cons rfl (fun K hK => ?_) ReadyD.nil
    go_simp
    refine hK.out _ _ trivial (fun _ => ?_)
    (clear hK K; try go_frame)
    refine wpAnyD_ready (rs := [6]) (by kernel_rfl) (by simp) ?_
    refine ReadyD.cons rfl (fun K hK => ?_) ?_
    refine step_append_vec rfl _ _ 22 rfl 5 ti _ 1 1 Tryz.underlying22 HI.out.1 HI.out.2.1 HI.out.2.2.1 HI.out.2.2.2 rfl (by decide) (.slice (some ⟨w2.heap.size, 0, none⟩) 0 0) 0 [] rfl HV0.out (.slice pa 60 pc) 60 (bc (a.drop 4)) rfl (((HP.out.1.still HS2.out).still HSA.out)).reads (bc_one _) (by decide) (by decide) ?_
    intro v3 w3 hv3 ho3 hb3
    obtain ⟨s3, f3⟩ := append_fresh HSA.out (fun g hg => by have e : w2.heap.size = g := Option.some.inj hg; have := HZA.out; omega) ho3 hb3
    obtain ⟨a3, c3, rfl⟩ := hv3.form'
    have H3 := Lib.hid (And.intro hv3 (And.intro s3 f3))
    clear hv3 ho3 hb3 s3 f3
    refine hK.out _ _ trivial (fun _ => ?_)
    (clear hK K; try go_frame)
    refine wpAnyD_ready (rs := [9]) (by kernel_rfl) (by simp) ?_
    refine ReadyD.cons rfl (fun K hK => ?_) ?_
    refine step_append_vec rfl _ _ 22 rfl 5 ti _ 1 1 Tryz.underlying22 HI.out.1 HI.out.2.1 HI.out.2.2.1 HI.out.2.2.2 rfl (by decide) (.slice a3 (0 + 60) c3) (0 + 60) ([] ++ bc (a.drop 4)) rfl H3.out.1 (.slice qa 60 qc) 60 (bc (b.drop 4)) rfl (((HP.out.2.1.still HS2.out).still H3.out.2.1)).reads (bc_one _) (by decide) (by decide) ?_
    intro v4 w4 hv4 ho4 hb4
    obtain ⟨s4, f4⟩ := append_fresh H3.out.2.1 H3.out.2.2 ho4 hb4
    have F := Lib.hid (show TsPost w a b (.returned (.tuple #[.int .i64 (numT a), v4, .int .i64 0])) w4 from by
     unfold TsPost
     rw [if_neg (fun e => e HE.out)]
     refine ⟨v4, rfl, ?_, HS2.out.trans s4, fun g hg => by have := f4 g hg; have := HS2.out.size; omega⟩
     rw [bc_append]
     exact hv4)
    clear hv4 ho4 hb4 s4 f4
    refine hK.out _ _ trivial (fun _ => ?_)
    (clear hK K; try go_frame)
    refine wpAnyD_ready (rs := [10]) (by kernel_rfl) (by simp) ?_
    refine ReadyD.cons rfl (fun K hK => ?_) ?_
    go_simp
    refine hK.out _ _ trivial (fun _ => ?_)
    (clear hK K; try go_frame)
    refine wpAnyD_ready (rs := [11]) (by kernel_rfl) (by simp) ?_
    refine ReadyD.cons rfl (fun K hK => ?_) ?_
    go_simp
    refine hK.out _ _ trivial (fun _ => ?_)
    (clear hK K; try go_frame)
    refine wpAnyD_ready (rs := [12]) (by kernel_rfl) (by simp) ?_
    refine ReadyD.cons rfl (fun K hK => ?_) ?_
    go_simp
    refine hK.out _ _ trivial (fun _ => ?_)
    (clear hK K; try go_frame)
    refine wpAnyD_done (by kernel_rfl) ?_ _
    go_wp2_with fail
    go_ret3
    exact F.out
    all_goals exact ReadyD.nil
  · go_simp
    refine hK.out _ _ trivial (fun _ => ?_)
    (clear hK K; try go_frame)
    refine wpAnyD_ready (rs := [2]) (by kernel_rfl) (by simp) ?_
    refine ReadyD.cons rfl (fun K hK => ?_) ReadyD.nil
    go_simp
    (go_at_call 92; (with_reducible refine (HSD.out _ (HS2.out.trans HSA.out)).mono ?_))
    rintro e w5 ⟨rfl, rfl⟩
    go_wp2_with fail
    refine hK.out _ _ trivial (fun _ => ?_)
    (clear hK K; try go_frame)
    refine wpAnyD_ready (rs := [6]) (by kernel_rfl) (by simp) ?_
    refine ReadyD.cons rfl (fun K hK => ?_) ?_
    refine step_append_vec rfl _ _ 22 rfl 5 ti _ 1 1 Tryz.underlying22 HI.out.1 HI.out.2.1 HI.out.2.2.1 HI.out.2.2.2 rfl (by decide) (.slice (some ⟨w2.heap.size, 0, none⟩) 0 0) 0 [] rfl HV0.out (.slice pa 60 pc) 60 (bc (a.drop 4)) rfl (((HP.out.1.still HS2.out).still HSA.out)).reads (bc_one _) (by decide) (by decide) ?_
    intro v3 w3 hv3 ho3 hb3
    obtain ⟨s3, f3⟩ := append_fresh HSA.out (fun g hg => by have e : w2.heap.size = g := Option.some.inj hg; have := HZA.out; omega) ho3 hb3
    obtain ⟨a3, c3, rfl⟩ := hv3.form'
    have H3 := Lib.hid (And.intro hv3 (And.intro s3 f3))
    clear hv3 ho3 hb3 s3 f3
    refine hK.out _ _ trivial (fun _ => ?_)
    (clear hK K; try go_frame)
    refine wpAnyD_ready (rs := [9]) (by kernel_rfl) (by simp) ?_
    refine ReadyD.cons rfl (fun K hK => ?_) ?_
    refine step_append_vec rfl _ _ 22 rfl 5 ti _ 1 1 Tryz.underlying22 HI.out.1 HI.out.2.1 HI.out.2.2.1 HI.out.2.2.2 rfl (by decide) (.slice a3 (0 + 60) c3) (0 + 60) ([] ++ bc (a.drop 4)) rfl H3.out.1 (.slice qa 60 qc) 60 (bc (b.drop 4)) rfl (((HP.out.2.1.still HS2.out).still H3.out.2.1)).reads (bc_one _) (by decide) (by decide) ?_
    intro v4 w4 hv4 ho4 hb4
    obtain ⟨s4, f4⟩ := append_fresh H3.out.2.1 H3.out.2.2 ho4 hb4
    have F := Lib.hid (show TsPost w a b (.returned (.tuple #[.int .i64 (numT a), v4, .int .i64 0])) w4 from by
     unfold TsPost
     rw [if_neg (fun e => e HE.out)]
     refine ⟨v4, rfl, ?_, HS2.out.trans s4, fun g hg => by have := f4 g hg; have := HS2.out.size; omega⟩
     rw [bc_append]
     exact hv4)
    clear hv4 ho4 hb4 s4 f4
    refine hK.out _ _ trivial (fun _ => ?_)
    (clear hK K; try go_frame)
    refine wpAnyD_ready (rs := [10]) (by kernel_rfl) (by simp) ?_
    refine ReadyD.cons rfl (fun K hK => ?_) ?_
    go_simp
    refine hK.out _ _ trivial (fun _ => ?_)
    (clear hK K; try go_frame)
    refine wpAnyD_ready (rs := [11]) (by kernel_rfl) (by simp) ?_
    refine ReadyD.cons rfl (fun K hK => ?_) ?_
    go_simp
    refine hK.out _ _ trivial (fun _ => ?_)
    (clear hK K; try go_frame)
    refine wpAnyD_ready (rs := [12]) (by kernel_rfl) (by simp) ?_
    refine ReadyD.cons rfl (fun K hK => ?_) ?_
    go_simp
    refine hK.out _ _ trivial (fun _ => ?_)
    (clear hK K; try go_frame)
    refine wpAnyD_done (by kernel_rfl) ?_ _
    go_wp2_with fail
    go_ret3
    exact F.out
    all_goals exact ReadyD.nil
end Go.Proofs.YtlcfoeikamkpmaaGreat

namespace Go.Proofs.YtlcfoeikamkpmaaGreat
open Go.RowKit Go.Wh Go.Maps

def RlPost (w : World) (a b : List Int) (e : Ending) (w' : World) : Prop :=
 (if (takeT a b).1 = 3 then e = .returned (.tuple #[.agg #[.slice none 0 0, .slice none 0 0, .slice none 0 0, .slice none 0 0, .int .i64 0], .int .i64 3])
 else ∃ v0 v1 v2 v3 : Value, e = .returned (.tuple #[.agg #[v0, v1, v2, v3, .int .i64 (takeT a b).2.lsn], .int .i64 0]) ∧ ∀ v ∈ [v0, v1, v2, v3], v.oneCell' = true) ∧ Still w w'
theorem takeT_three {a b : List Int} (h : (takeT a b).1 = 3) : numT a ≠ numT b := fun e => by
 unfold takeT at h
 rw [if_neg (fun k => k e)] at h
 split at h
 · cases h
 · split at h
   · cases h
   · split at h
     · cases h
     · cases h
theorem takeT_rows {a b : List Int} (h : (takeT a b).1 = 0) (hr : ∀ l ∈ (takeT a b).2.c, l = [] ∨ rowT l = true) : numT a = numT b ∧ numT a ≤ 2147483647 ∧ (takeT a b).2.lsn = numT a ∧ nought ((a.drop 4 ++ b.drop 4).drop 104) = true ∧ ∀ i, i < 4 → nought (cellAt (a.drop 4 ++ b.drop 4) i) = true ∨ rowT (cellAt (a.drop 4 ++ b.drop 4) i) = true := by
 unfold takeT at h hr ⊢
 split at h
 · cases h
 rename_i h1
 rw [if_neg h1] at hr ⊢
 split at h
 · cases h
 rename_i h2
 rw [if_neg h2] at hr ⊢
 split at h
 · cases h
 rename_i h3
 rw [if_neg h3] at hr ⊢
 split at h
 · cases h
 rename_i h4
 rw [if_neg h4] at hr ⊢
 refine ⟨Classical.byContradiction h1, by omega, rfl, by simpa using h3, fun i hi => ?_⟩
 cases hn : nought (cellAt (a.drop 4 ++ b.drop 4) i) with
 | true => exact .inl rfl
 | false =>
  have := hr (cellAt (a.drop 4 ++ b.drop 4) i) (by
   show _ ∈ cellsT _
   unfold cellsT
   exact List.mem_map.2 ⟨i, List.mem_range.2 hi, by rw [hn]; rfl⟩)
  rcases this with e | e
  · rw [e] at hn
    cases hn
  · exact .inr e
theorem RrPost.still {w w' : World} {e : Ending} (h : RrPost w e w') : Still w w' := by
 obtain ⟨k, s0, s1, s2, p, c, -, hs⟩ := h
 exact hs
set_option maxHeartbeats 8000000 in
set_option maxRecDepth 100000 in
theorem rtleaf_ok {Q1 Q2 : Nat → Prop} (w : World) (v u : Value) (a b : List Int) (h : Sl w Q1 1 v 64 (bc a)) (hc : Cap 64 v) (hb : Byt a) (k : Sl w Q2 1 u 64 (bc b)) (kc : Cap 64 u) (kb : Byt b) (hok : (takeT a b).1 = 3 ∨ ((takeT a b).1 = 0 ∧ ∀ l ∈ (takeT a b).2.c, l = [] ∨ rowT l = true)) :
 Calls Tryz.prog 32 #[v, u] w (RlPost w a b) := by
 obtain ⟨ti, hi0, hi1, hi2, hi3⟩ := info_parts info_b
 have HI0 := Lib.hid (And.intro hi0 (And.intro hi1 (And.intro hi2 hi3)))
 have hla : a.length = 64 := by have := h.1; rw [bc_length] at this; omega
 have hlb : b.length = 64 := by have := k.1; rw [bc_length] at this; omega
 obtain ⟨bd, hbd⟩ : ∃ bd, a.drop 4 ++ b.drop 4 = bd := ⟨_, rfl⟩
 have hbl : bd.length = 120 := by rw [← hbd, List.length_append, List.length_drop, List.length_drop]; omega
 have hbb : Byt bd := by rw [← hbd]; exact (hb.drop 4).append (kb.drop 4)
 have HBD := Lib.hid (And.intro hbd (And.intro hbl hbb))
 have HOK := Lib.hid hok
 have HST := Lib.hid (fun w' (hs : Still w w') => rtsheet_ok w' v u a b (h.still hs) hc hb (k.still hs) kc kb (fun e => by
  rcases hok with e2 | ⟨e2, e3⟩
  · exact absurd e (takeT_three e2)
  · exact (takeT_rows e2 e3).2.1))
 have HC0 := Lib.hid (fun tt => cellsAt_new w [.slice none 0 0, .slice none 0 0, .slice none 0 0, .slice none 0 0, .int .i64 0] tt)
 clear h hb k kb hla hlb hbd hbl hbb hok hi0 hi1 hi2 hi3
 go_enter Tryz.func32, Tryz.ntmps32
 go_upto_region 1 with fail
 have hc0 := HC0.out 36
 have hs0 : Still w (w.alloc (.cells #[.slice none 0 0, .slice none 0 0, .slice none 0 0, .slice none 0 0, .int .i64 0] 36)) := (Still.refl w).alloc _
 clear HC0
 change cellsAt (w.alloc (.cells #[.slice none 0 0, .slice none 0 0, .slice none 0 0, .slice none 0 0, .int .i64 0] 36)) w.heap.size _ at hc0
 generalize (w.alloc (.cells #[.slice none 0 0, .slice none 0 0, .slice none 0 0, .slice none 0 0, .int .i64 0] 36)) = w0 at *
 obtain ⟨b4, hb4⟩ : ∃ b, w.heap.size = b := ⟨_, rfl⟩
 rw [hb4] at hc0
 rw [hb4]
 have H0 := Lib.hid (And.intro hs0 hc0)
 have HB4 := Lib.hid hb4
 clear hs0 hc0 hb4
 go_wp2_with fail
 refine (HST.out w0 H0.out.1).mono ?_
 intro e w2 hp
 unfold TsPost at hp
 by_cases hE : numT a = numT b
 rotate_left
 · rw [if_pos hE] at hp
   obtain ⟨rfl, hs2⟩ := hp
   have HT := Lib.hid (show (takeT a b).1 = 3 from by unfold takeT; rw [if_pos hE])
   have H2 := Lib.hid (show Still w w2 ∧ cellsAt w2 b4 [.slice none 0 0, .slice none 0 0, .slice none 0 0, .slice none 0 0, .int .i64 0] from ⟨H0.out.1.trans hs2, H0.out.2.only hs2 fun e => e⟩)
   clear hs2 hE HST
   go_wp2_with ((with_reducible (show wpList _ _ _ ({ dst := none, op := Op.store 36 _ _, type := _, pos := _, after := _, guard := _ } :: _) _ _)); (refine wpList_storeAgg rfl 36 _ _ rfl b4 #[.slice none 0 0, .slice none 0 0, .slice none 0 0, .slice none 0 0, .int .i64 0] rfl rfl H2.out.2 size_page rfl rfl ?_; intro wf hcf hof hzf; have HF := Lib.hid (And.intro hcf (And.intro hof hzf)); clear hcf hof hzf))
   have z0 : wf.cell? ⟨b4, 0, none⟩ = some (.slice none 0 0) := HF.out.1.cell 0
   have z1 : wf.cell? ⟨b4, 1, none⟩ = some (.slice none 0 0) := HF.out.1.cell 1
   have z2 : wf.cell? ⟨b4, 2, none⟩ = some (.slice none 0 0) := HF.out.1.cell 2
   have z3 : wf.cell? ⟨b4, 3, none⟩ = some (.slice none 0 0) := HF.out.1.cell 3
   have z4 : wf.cell? ⟨b4, 4, none⟩ = some (.int .i64 0) := HF.out.1.cell 4
   have FF := Lib.hid (show RlPost w a b (.returned (.tuple #[.agg #[.slice none 0 0, .slice none 0 0, .slice none 0 0, .slice none 0 0, .int .i64 0], .int .i64 3])) wf from by
    refine ⟨?_, Only.andThen H2.out.1 HF.out.2.1 fun g hg e => by have := HB4.out; have e' : g = b4 := e; omega⟩
    rw [if_pos HT.out])
   exact bodyPost_ret (v := .tuple #[.agg #[.slice none 0 0, .slice none 0 0, .slice none 0 0, .slice none 0 0, .int .i64 0], .int .i64 3]) (by simp [results, Tryz.results32, go_sem, z0, z1, z2, z3, z4]) rfl FF.out
 have h03 : (takeT a b).1 ≠ 3 := fun e => takeT_three e hE
 have hok := takeT_rows (HOK.out.resolve_left h03).1 (HOK.out.resolve_left h03).2
 rw [if_neg (fun e => e hE)] at hp
 obtain ⟨bv, rfl, hbv, hs2, hfb⟩ := hp
 obtain ⟨x, hx⟩ : ∃ x, numT a = x := ⟨_, rfl⟩
 rw [hx] at hok
 rw [HBD.out.1] at hok hbv
 have HX := Lib.hid (And.intro h03 hok)
 rw [hx]
 have H2 := Lib.hid (show Still w w2 ∧ cellsAt w2 b4 [.slice none 0 0, .slice none 0 0, .slice none 0 0, .slice none 0 0, .int .i64 0] from ⟨H0.out.1.trans hs2, H0.out.2.only hs2 fun e => e⟩)
 obtain ⟨ba, bc', rfl⟩ := hbv.form'
 have HBV := Lib.hid (And.intro hbv (show ∀ g, (Value.slice ba 120 bc').ownBlock = some g → b4 < g ∧ g < w2.heap.size from fun g hg => by
  have := hfb g hg
  have := H0.out.2.lt
  have := HB4.out
  omega))
 have HSB := Lib.hid (Vec.sl (Q := fun g => b4 < g ∧ g < w2.heap.size) hbv fun g hg => ⟨HBV.out.2 g hg, (HBV.out.2 g hg).2⟩)
 clear hbv hs2 hfb hx hE HST h03 hok
 go_wp2_with fail
 go_loopw [9] (fun s9 wr => ∃ i : Nat, s9 = .int .i64 i ∧ 104 ≤ i ∧ i ≤ 120 ∧ w2 = wr) (fun s9 _ => 120 - (intOf s9).toNat)
 case atStart => exact ⟨104, rfl, Nat.le_refl _, by decide, rfl⟩
 obtain ⟨i, rfl, hi1, hi2, rfl⟩ := hrel
 by_cases hi : i < 120
 · have d1 : decide ((i : Int) < 120) = true := decide_eq_true (by omega)
   have d2 : decide (i < 120) = true := decide_eq_true hi
   have i0 : (0 : Int) ≤ (i : Int) := by omega
   have i1 : (i : Int) < 120 := by omega
   have u9 : IntKind.i64.wrap ((i : Int) + 1) = (i : Int) + 1 := IntWalk.i64_in _ (by omega)
   obtain ⟨g, o, cc, he, -, -, hcs⟩ := HSB.out.pos (by decide)
   cases he
   have hz : bd[i]? = some 0 := by
    have hn := nought_rep HX.out.2.2.2.2.1
    have h1 : (bd.drop 104)[i - 104]? = some 0 := by
     rw [hn, List.getElem?_replicate, if_pos (by rw [List.length_drop, HBD.out.2.1]; omega)]
    rw [List.getElem?_drop, show 104 + (i - 104) = i by omega] at h1
    exact h1
   have c0 : w2.cell? ⟨g, o + i, none⟩ = some (.int .u8 0) := hcs i _ (bc_get hz)
   have HI := Lib.hid (And.intro hi1 hi)
   clear hcs hz hi hi1 hi2
   go_wp2_with fail
   go_roundw
   case rel => exact ⟨i + 1, by go_num, by have := HI.out; omega, by have := HI.out; omega, trivial⟩
   case measure => simp [intOf]; have := HI.out; omega
 have d1 : decide ((i : Int) < 120) = false := decide_eq_false (by omega)
 have d2 : decide (i < 120) = false := decide_eq_false hi
 clear hi hi1 hi2
 have HC9 := Lib.hid (fun tt => cellsAt_new w2 [.slice none 0 0, .slice none 0 0, .slice none 0 0, .slice none 0 0, .int .i64 0] tt)
 go_upto_region 11 with ((with_reducible (show wpList _ _ _ ({ dst := none, op := Op.store 36 _ _, type := _, pos := _, after := _, guard := _ } :: _) _ _)); (refine wpList_storeAgg rfl 36 _ _ rfl w2.heap.size #[.slice none 0 0, .slice none 0 0, .slice none 0 0, .slice none 0 0, .int .i64 x] rfl rfl (HC9.out _) size_page rfl rfl ?_; intro w3 hcf hof hzf; have H3 := Lib.hid (And.intro hcf (And.intro hof hzf)); clear hcf hof hzf))
 obtain ⟨b9, hb9⟩ : ∃ b, w2.heap.size = b := ⟨_, rfl⟩
 rw [hb9] at H3
 rw [hb9]
 have H4 := Lib.hid (show b4 < b9 ∧ Still w w3 ∧ cellsAt w3 b4 [.slice none 0 0, .slice none 0 0, .slice none 0 0, .slice none 0 0, .int .i64 0] ∧ cellsAt w3 b9 [.slice none 0 0, .slice none 0 0, .slice none 0 0, .slice none 0 0, .int .i64 x] ∧ Sl w3 (fun g => b4 < g ∧ g < b9) 1 (.slice ba 120 bc') 120 (bc bd) from by
  have hl := H2.out.2.lt
  have e23 : Only (fun g => g = b9) w2 w3 := ((Only.refl _ _).alloc _).trans H3.out.2.1
  refine ⟨by omega, H2.out.1.andThen e23 fun g hg e => ?_, H2.out.2.only e23 fun e => ?_, H3.out.1, ?_⟩
  · have := H2.out.1.size; have e' : g = b9 := e; omega
  · have e' : b4 = b9 := e; omega
  · exact (Vec.sl (Q := fun g => b4 < g ∧ g < b9) HBV.out.1 fun g hg => by have := HBV.out.2 g hg; exact ⟨⟨this.1, by omega⟩, this.2⟩).only e23 fun g hg e => by have e' : g = b9 := e; omega)
 have hcap : Cap 120 (.slice ba 120 bc') := Vec.capOf HBV.out.1
 have HCAP := Lib.hid hcap
 clear HC9 H3 H2 hb9 hcap HSB
 go_loopw [11] (fun s11 wr => ∃ (i : Nat) (vs : List Value), s11 = .int .i64 i ∧ i ≤ 4 ∧ vs.length = 4 ∧ Still w wr ∧ cellsAt wr b4 [.slice none 0 0, .slice none 0 0, .slice none 0 0, .slice none 0 0, .int .i64 0] ∧ cellsAt wr b9 (vs ++ [.int .i64 x]) ∧ (∀ v ∈ vs, v.oneCell' = true) ∧ Sl wr (fun g => b4 < g ∧ g < b9) 1 (.slice ba 120 bc') 120 (bc bd)) (fun s11 _ => 4 - (intOf s11).toNat)
 case atStart =>
  refine ⟨0, [.slice none 0 0, .slice none 0 0, .slice none 0 0, .slice none 0 0], rfl, Nat.zero_le _, rfl, H4.out.2.1, H4.out.2.2.1, H4.out.2.2.2.1, fun v hv => ?_, H4.out.2.2.2.2⟩
  simp only [List.mem_cons, List.not_mem_nil, or_false] at hv
  rcases hv with rfl | rfl | rfl | rfl <;> rfl
 obtain ⟨i, vs, rfl, hin, hvl, hs, hc4, hc9, hone, hsb⟩ := hrel
 have HR := Lib.hid (And.intro hvl (And.intro hs (And.intro hc4 (And.intro hc9 (And.intro hone hsb)))))
 by_cases hi : i < 4
 rotate_left
 · have d1 : decide ((i : Int) < 4) = false := decide_eq_false (by omega)
   have d2 : decide (i < 4) = false := decide_eq_false hi
   obtain ⟨u0, u1, u2, u3, rfl⟩ : ∃ u0 u1 u2 u3, vs = [u0, u1, u2, u3] := by
    match vs, hvl with
    | [u0, u1, u2, u3], _ => exact ⟨u0, u1, u2, u3, rfl⟩
   have HONE := Lib.hid (show (#[u0, u1, u2, u3, .int .i64 x] : Array Value).toList.all (·.oneCell') = true from by
    rw [List.all_eq_true]
    intro y hy
    simp only [List.mem_cons, List.not_mem_nil, or_false] at hy
    rcases hy with rfl | rfl | rfl | rfl | rfl
    · exact hone _ (by simp)
    · exact hone _ (by simp)
    · exact hone _ (by simp)
    · exact hone _ (by simp)
    · rfl)
   clear hs hc4 hc9 hone hsb hvl hi hin
   go_wp2_with (first
    | ((with_reducible (show wpList _ _ _ ({ dst := some 73, op := _, type := _, pos := _, after := _, guard := _ } :: _) _ _)); (refine wpList_loadAgg rfl 36 _ rfl b9 #[u0, u1, u2, u3, .int .i64 x] rfl HR.out.2.2.2.1 _ Tryz.underlying36 rfl size_page ?_))
    | ((with_reducible (show wpList _ _ _ ({ dst := none, op := Op.store 36 _ _, type := _, pos := _, after := _, guard := _ } :: _) _ _)); (refine wpList_storeAgg rfl 36 _ _ rfl b4 #[u0, u1, u2, u3, .int .i64 x] rfl rfl HR.out.2.2.1 size_page rfl HONE.out ?_; intro wf hcf hof hzf; have HF := Lib.hid (And.intro hcf (And.intro hof hzf)); clear hcf hof hzf)))
   have z0 : wf.cell? ⟨b4, 0, none⟩ = some u0 := HF.out.1.cell 0
   have z1 : wf.cell? ⟨b4, 1, none⟩ = some u1 := HF.out.1.cell 1
   have z2 : wf.cell? ⟨b4, 2, none⟩ = some u2 := HF.out.1.cell 2
   have z3 : wf.cell? ⟨b4, 3, none⟩ = some u3 := HF.out.1.cell 3
   have z4 : wf.cell? ⟨b4, 4, none⟩ = some (.int .i64 x) := HF.out.1.cell 4
   have FF := Lib.hid (show RlPost w a b (.returned (.tuple #[.agg #[u0, u1, u2, u3, .int .i64 x], .int .i64 0])) wf from by
    refine ⟨?_, HR.out.2.1.andThen HF.out.2.1 fun g hg e => by have := HB4.out; have e' : g = b4 := e; omega⟩
    rw [if_neg HX.out.1, HX.out.2.2.2.1]
    exact ⟨u0, u1, u2, u3, rfl, HR.out.2.2.2.2.1⟩)
   exact bodyPost_ret (v := .tuple #[.agg #[u0, u1, u2, u3, .int .i64 x], .int .i64 0]) (by simp [results, Tryz.results32, go_sem, z0, z1, z2, z3, z4]) rfl FF.out
 have d1 : decide ((i : Int) < 4) = true := decide_eq_true (by omega)
 have d2 : decide (i < 4) = true := decide_eq_true hi
 have i0 : (0 : Int) ≤ (i : Int) := by omega
 have i1 : (i : Int) < 4 := by omega
 have u9 : IntKind.i64.wrap ((i : Int) + 1) = (i : Int) + 1 := IntWalk.i64_in _ (by omega)
 obtain ⟨lo, hlo⟩ : ∃ lo, i * 26 = lo := ⟨_, rfl⟩
 have a1 : (i : Int) * 26 = (lo : Int) := by omega
 have a2 : ((i : Int) + 1) * 26 = ((lo + 26 : Nat) : Int) := by omega
 obtain ⟨hh, hhi⟩ : ∃ hh, lo + 26 = hh := ⟨_, rfl⟩
 rw [hhi] at a2
 have u1 : IntKind.i64.wrap (lo : Int) = (lo : Int) := IntWalk.i64_in _ (by omega)
 have u2 : IntKind.i64.wrap (hh : Int) = (hh : Int) := IntWalk.i64_in _ (by omega)
 obtain ⟨cv, r1, -, -, hcc, hcp⟩ := hsb.part (P := Tryz.prog) (size := 1) 22 Tryz.underlying22 (fun w => rfl) HCAP.out (show lo ≤ hh by omega) (show hh ≤ 120 by omega)
 have hcs := hcp wr _ hsb
 have e26 : hh - lo = 26 := by omega
 have e1 : ((bc bd).drop (lo * 1)).take ((hh - lo) * 1) = bc (cellAt bd i) := by
  unfold bc cellAt
  rw [e26, hlo, Nat.mul_one, Nat.mul_one, List.map_take, List.map_drop]
 rw [e1] at hcs
 rw [e26] at hcs hcc
 obtain ⟨l, hl⟩ : ∃ l, cellAt bd i = l := ⟨_, rfl⟩
 have hll : l.length = 26 := by rw [← hl]; exact cellAt_len HBD.out.2.1 hi
 have hlb : Byt l := by rw [← hl]; exact cellAt_byt HBD.out.2.2 i
 rw [hl] at hcs
 have HRD := Lib.hid (rread_ok wr cv l hcs hcc hlb (by have := HX.out.2.2.2.2.2 i hi; rw [hl] at this; exact this))
 have HCS := Lib.hid (And.intro hcs (And.intro hll hlb))
 obtain ⟨ca, cc, rfl⟩ := hcs.form
 have HI := Lib.hid hi
 clear hs hc4 hc9 hone hsb hvl hcc hcp hcs e1 e26 hlo hhi hl hll hlb hi hin
 go_wp2_with fail
 refine HRD.out.mono ?_
 rintro e w5 ⟨kd, rk, rs, rv, rp, rc, rfl, hs5⟩
 have HS5 := Lib.hid hs5
 have HZ5 := Lib.hid (fun tt tt2 => show Still w5 ((w5.alloc (.cells #[.string ⟨#[]⟩, .string ⟨#[]⟩, .string ⟨#[]⟩] tt)).alloc (.cells #[.int .i64 0, .int .i64 0] tt2)) ∧ cellsAt ((w5.alloc (.cells #[.string ⟨#[]⟩, .string ⟨#[]⟩, .string ⟨#[]⟩] tt)).alloc (.cells #[.int .i64 0, .int .i64 0] tt2)) w5.heap.size [.string ⟨#[]⟩, .string ⟨#[]⟩, .string ⟨#[]⟩] ∧ cellsAt ((w5.alloc (.cells #[.string ⟨#[]⟩, .string ⟨#[]⟩, .string ⟨#[]⟩] tt)).alloc (.cells #[.int .i64 0, .int .i64 0] tt2)) (w5.heap.size + 1) [.int .i64 0, .int .i64 0] from by
  have hz : (w5.alloc (.cells #[.string ⟨#[]⟩, .string ⟨#[]⟩, .string ⟨#[]⟩] tt)).heap.size = w5.heap.size + 1 := by simp
  refine ⟨((Still.refl w5).alloc _).alloc _, (cellsAt_new w5 [.string ⟨#[]⟩, .string ⟨#[]⟩, .string ⟨#[]⟩] tt).alloc _, ?_⟩
  have := cellsAt_new (w5.alloc (.cells #[.string ⟨#[]⟩, .string ⟨#[]⟩, .string ⟨#[]⟩] tt)) [.int .i64 0, .int .i64 0] tt2
  rw [hz] at this
  exact this)
 clear hs5 HRD
 go_upto_region 15 with (first
  | ((with_reducible (show wpList _ _ _ ({ dst := none, op := Op.store 60 _ _, type := _, pos := _, after := _, guard := _ } :: _) _ _)); (refine wpList_storeAgg rfl 60 _ _ rfl w5.heap.size #[.string rk, .string rs, .string rv] rfl rfl (HZ5.out _ _).2.1 size_row rfl rfl ?_; intro w6 hcf hof hzf; have H6 := Lib.hid (And.intro hcf (And.intro hof hzf)); clear hcf hof hzf))
  | ((with_reducible (show wpList _ _ _ ({ dst := none, op := Op.store 64 _ _, type := _, pos := _, after := _, guard := _ } :: _) _ _)); (refine wpList_storeAgg rfl 64 _ _ rfl (w5.heap.size + 1) #[.int .i64 rp, .int .i64 rc] rfl rfl ((HZ5.out _ _).2.2.only H6.out.2.1 fun e => by have e' : w5.heap.size + 1 = w5.heap.size := e; omega) size_rid rfl rfl ?_; intro w7 hcf hof hzf; have H7 := Lib.hid (And.intro hcf (And.intro hof hzf)); clear hcf hof hzf)))
 have HS7 := Lib.hid (show Still wr w7 from by
  have h1 := (HZ5.out 60 64).1
  have h2 : Still w5 w6 := h1.andThen H6.out.2.1 fun g hg e => by have e' : g = w5.heap.size := e; omega
  have h3 : Still w5 w7 := h2.andThen H7.out.2.1 fun g hg e => by have e' : g = w5.heap.size + 1 := e; omega
  exact HS5.out.trans h3)
 clear HZ5 H6 H7 HS5
 have HBK := Lib.hid (blank_any w7 (.slice ca 26 cc) 26 l (HCS.out.1.still HS7.out) HCS.out.2.2 (by decide))
 generalize blankB l = q at *
 cases q with
 | true =>
  go_wp2_with fail
  refine HBK.out.mono ?_
  rintro e w8 ⟨rfl, hs8⟩
  have HN := Lib.hid (show vs.length = 4 ∧ Still w w8 ∧ cellsAt w8 b4 [.slice none 0 0, .slice none 0 0, .slice none 0 0, .slice none 0 0, .int .i64 0] ∧ cellsAt w8 b9 (vs ++ [.int .i64 x]) ∧ (∀ v ∈ vs, v.oneCell' = true) ∧ Sl w8 (fun g => b4 < g ∧ g < b9) 1 (.slice ba 120 bc') 120 (bc bd) from by
   obtain ⟨hvl, hs, hc4, hc9, hone, hsb⟩ := HR.out
   have hs7 := HS7.out.trans hs8
   exact ⟨hvl, hs.trans hs7, hc4.only hs7 fun e => e, hc9.only hs7 fun e => e, hone, hsb.still hs7⟩)
  clear r1 HBK hs8
  go_wp2_with fail
  go_roundw
  case rel => exact ⟨i + 1, vs, by go_num, by have := HI.out; omega, HN.out⟩
  case measure => first | (simp [intOf]; done) | (simp [intOf]; have := HI.out; omega)
 | false =>
  go_wp2_with fail
  refine HBK.out.mono ?_
  rintro e w8 ⟨rfl, hs8⟩
  have HW8 := Lib.hid (HS7.out.trans hs8)
  clear HBK hs8 r1
  obtain ⟨u0, hu0⟩ : ∃ u, vs[i]? = some u := ⟨_, List.getElem?_eq_getElem (by have := HI.out; have := HR.out.1; omega)⟩
  have HV0 := Lib.hid (show Vec (w8.alloc (.cells #[] 5)) 1 (.slice (some ⟨w8.heap.size, 0, none⟩) 0 0) 0 [] from Vec.none_ _ _ _ _)
  have HSA := Lib.hid (show Still w8 (w8.alloc (.cells #[] 5)) from (Still.refl _).alloc _)
  have HZA := Lib.hid (show (w8.alloc (.cells #[] 5)).heap.size = w8.heap.size + 1 by simp)
  have HF9 := Lib.hid (fun w9 (hs : Still w8 w9) => show w9.cell? ⟨b9, i, none⟩ = some u0 ∧ w9.frozen? ⟨b9, i, none⟩ = false from by
   have h9 := HR.out.2.2.2.1.only (HW8.out.trans hs) fun e => e
   refine ⟨?_, h9.free i⟩
   rw [h9.cell i, List.getElem?_append_left (by have := HI.out; have := HR.out.1; omega)]
   exact hu0)
  have HNX := Lib.hid (fun w9 (hs : Still w8 w9) (y : Value) (hy : y.oneCell' = true) => show (vs.set i y).length = 4 ∧ Still w (w9.setCell ⟨b9, i, none⟩ y) ∧ cellsAt (w9.setCell ⟨b9, i, none⟩ y) b4 [.slice none 0 0, .slice none 0 0, .slice none 0 0, .slice none 0 0, .int .i64 0] ∧ cellsAt (w9.setCell ⟨b9, i, none⟩ y) b9 (vs.set i y ++ [.int .i64 x]) ∧ (∀ v ∈ vs.set i y, v.oneCell' = true) ∧ Sl (w9.setCell ⟨b9, i, none⟩ y) (fun g => b4 < g ∧ g < b9) 1 (.slice ba 120 bc') 120 (bc bd) from by
   obtain ⟨hvl, hs0, hc4, hc9, hone, hsb⟩ := HR.out
   have hs9 := HW8.out.trans hs
   have h4 := H4.out.1
   have hb4 := HB4.out
   have ho : Only (fun k => k = b9) w9 (w9.setCell ⟨b9, i, none⟩ y) := setCell_only w9 ⟨b9, i, none⟩ y
   refine ⟨by rw [List.length_set]; exact hvl, (hs0.trans hs9).andThen ho fun g hg e => ?_, (hc4.only hs9 fun e => e).only ho fun e => by have e' : b4 = b9 := e; omega, ?_, fun v hv => ?_, (hsb.still hs9).only ho fun g hg e => by have e' : g = b9 := e; omega⟩
   · have e' : g = b9 := e
     have := H4.out.2.2.1.lt
     omega
   · have := (hc9.only hs9 fun e => e).setCell i y
     rw [List.set_append_left _ _ (by have := HI.out; omega)] at this
     exact this
   · rcases List.mem_or_eq_of_mem_set hv with e | e
     · exact hone v e
     · rw [e]
       exact hy)
  clear hu0
  go_wp2_with (at_builtin; refine wpList_append_vec rfl _ _ 22 rfl 5 ti _ 1 1 Tryz.underlying22 HI0.out.1 HI0.out.2.1 HI0.out.2.2.1 HI0.out.2.2.2 rfl (by decide) (.slice (some ⟨w8.heap.size, 0, none⟩) 0 0) 0 [] rfl HV0.out (.slice ca 26 cc) 26 (bc l) rfl ((HCS.out.1.still HW8.out).still HSA.out).reads (bc_one _) (by decide) (by decide) ?_; intro y w9 hy ho9 hb9; have hs9 := (append_fresh HSA.out (fun g hg => by have e : w8.heap.size = g := Option.some.inj hg; have := HZA.out; omega) ho9 hb9).1; have hy1 : y.oneCell' = true := (by obtain ⟨ya, yc, rfl⟩ := hy.form'; rfl); have c9 := (HF9.out w9 hs9).1; have f9 := (HF9.out w9 hs9).2; have HN := Lib.hid (HNX.out w9 hs9 y hy1); obtain ⟨ya, yc, rfl⟩ := hy.form'; clear hy ho9 hb9 hs9 hy1 HV0 HSA HZA HF9 HNX)
  go_roundw
  case rel => exact ⟨i + 1, _, by go_num, by have := HI.out; omega, HN.out⟩
  case measure => first | (simp [intOf]; done) | (simp [intOf]; have := HI.out; omega)
end Go.Proofs.YtlcfoeikamkpmaaGreat

namespace Go.Proofs.YtlcfoeikamkpmaaGreat
open Go.RowKit Go.Wh Go.Maps

def AhRel (W : World) (d t pb i : Nat) (wr : World) : Prop := ∃ c s, PX W c 1 2 3 4 wr pb d (some t) cfA s ∧ (streamB s.es).length = s.es.length * 25 ∧ s.es.length ≤ i ∧ (∀ e ∈ s.es, e.may = true) ∧ ((s.es.length = i ∧ ∃ Cd, Alv cfA s Cd) ∨ (s.D.down ∧ ∃ st, Saf cfA s.D s.es st))
def AhLive (W : World) (d t pb i : Nat) (c : Nat → Nat) (wr : World) (s : PSt) : Prop := PX W c 1 2 3 4 wr pb d (some t) cfA s ∧ (streamB s.es).length = s.es.length * 25 ∧ (∀ e ∈ s.es, e.may = true) ∧ s.es.length = i ∧ ∃ Cd, Alv cfA s Cd
theorem AhRel.st {W : World} {d t pb i : Nat} {wr : World} (h : AhRel W d t pb i wr) : Still W wr := by
 obtain ⟨c, s, h1, -⟩ := h
 exact h1.lg.still
theorem let_row (z : Int) : rowT (rowC (97 + z % 26) [] []) = true := by
 obtain ⟨n, hn⟩ : ∃ n : Nat, z % 26 = (n : Int) := ⟨(z % 26).toNat, by omega⟩
 rw [hn]
 have key : ∀ n ∈ List.range 26, rowT (rowC (97 + (n : Int)) [] []) = true := by decide
 exact key n (List.mem_range.2 (by omega))
section
variable {W : World} {d t pb i : Nat} {c : Nat → Nat} {w : World} {s : PSt}
theorem ah_append (h : AhLive W d t pb i c w s) (h20 : i < 20) :
 Calls Tryz.prog 24 #[.pointer (some ⟨t, 0, none⟩), .agg #[.int .i64 1, .int .i64 1, .int .i64 0, .int .i64 0, .int .i64 0, .int .i64 0, .int .i64 0, .int .i64 0, .int .i64 0, .int .i64 0, .slice none 0 0, .slice none 0 0, .slice none 0 0, .slice none 0 0, .slice none 0 0, .slice none 0 0]] w
  (fun e w' => e = .returned (.tuple #[.int .i64 ((i : Int) + 1), .int .i64 0]) ∧ ∃ c' s', AhLive W d t pb (i + 1) c' w' s') := by
 obtain ⟨hx, hs, hm, hi, Cd, ha⟩ := h
 have hmay : (nE 1 1).may = true := nE_may (by omega) (by omega)
 refine (px_append hx dif1 hmay (by rw [hs, hi]; show i * 25 + 25 ≤ 44 * 63; omega)).mono ?_
 rintro e w' ⟨rfl, c', hst, hx'⟩
 refine ⟨by rw [hi]; rfl, c', _, hx', ?_, fun e he => ?_, ?_, Cd, append_safe ha _⟩
 · show (streamB (s.es ++ [nE 1 1])).length = (s.es ++ [nE 1 1]).length * 25
   rw [stream_nE hs, List.length_append]
   rfl
 · rcases List.mem_append.1 he with e2 | e2
   · exact hm e e2
   · rw [List.mem_singleton.1 e2]
     exact hmay
 · show (s.es ++ [nE 1 1]).length = i + 1
   rw [List.length_append, hi]
   rfl
theorem ah_aft {E : Int} {s' : PSt} (hx : PX W c 1 2 3 4 w pb d (some t) cfA s') (hs : (streamB s.es).length = s.es.length * 25) (hm : ∀ e ∈ s.es, e.may = true) (hi : s.es.length = i) (ha : Aft cfA s.es E s') : AhRel W d t pb i w := by
 obtain ⟨e1, h⟩ := ha
 refine ⟨c, s', hx, by rw [e1]; exact hs, by rw [e1, hi]; exact Nat.le_refl _, by rw [e1]; exact hm, ?_⟩
 rcases h with ⟨Cd, h1, -⟩ | ⟨-, h1, h2⟩
 · exact .inl ⟨by rw [e1, hi], Cd, h1⟩
 · exact .inr ⟨h1, by rw [e1]; exact h2⟩
theorem ah_set (h : AhLive W d t pb i c w s) (h20 : i ≤ 20) {k j : Int} (k0 : 0 ≤ k) (k8 : k < 8) (j0 : 0 ≤ j) (j4 : j < 4) {R : Nat → Prop} {x : Value} (z : Int) (hx : Mine c w R 26 x (bc (rowC (97 + z % 26) [] []))) :
 Calls Tryz.prog 17 #[.pointer (some ⟨pb, 0, none⟩), .int .i64 k, .int .i64 j, x, .int .i64 i] w (fun e w' => (∃ E, e = .returned (.int .i64 E)) ∧ AhRel W d t pb i w') := by
 obtain ⟨hp, hs, hm, hi, Cd, ha⟩ := h
 obtain ⟨l1, l2, l3, l4⟩ := let_ok z
 have hz : lsnMay (i : Int) = true := by
  unfold lsnMay
  simp only [Bool.and_eq_true, decide_eq_true_eq]
  omega
 refine (px_set hp dif1 k j (bl := rowC (97 + z % 26) [] []) hx.1 (fun g e => (hx.2 g e).1) l4 (i : Int) (E := (s.set cfA k j (rowC (97 + z % 26) [] []) i).1) (s' := (s.set cfA k j (rowC (97 + z % 26) [] []) i).2) rfl).mono ?_
 rintro e w' ⟨rfl, c', hst, hx'⟩
 exact ⟨⟨_, rfl⟩, ah_aft hx' hs hm hi (set_safe ha k0 (by show k < ((8 : Nat) : Int); omega) j0 j4 (.inr ⟨l1, l2, l3, l4⟩) (.inr (let_row z)) hz (by rw [hi]; exact Int.le_refl _))⟩
theorem ah_flush (h : AhRel W d t pb i w) {k : Int} (k0 : 0 ≤ k) (k8 : k < 8) :
 Calls Tryz.prog 21 #[.pointer (some ⟨pb, 0, none⟩), .int .i64 k] w (fun e w' => (∃ E, e = .returned (.int .i64 E)) ∧ AhRel W d t pb i w') := by
 obtain ⟨c, s, hp, hs, hi, hm, h⟩ := h
 refine (px_flush hp dif1 k (E := (s.flush cfA k).1) (s' := (s.flush cfA k).2) rfl).mono ?_
 rintro e w' ⟨rfl, c', hst, hx'⟩
 refine ⟨⟨_, rfl⟩, ?_⟩
 rcases h with ⟨h1, Cd, h2⟩ | ⟨h1, h2⟩
 · exact ah_aft hx' hs hm h1 (flush_safe h2 k0 (by show k < ((8 : Nat) : Int); omega))
 · obtain ⟨e1, e2⟩ := flush_dead h1.1 k (cf := cfA)
   exact ⟨c', _, hx', by rw [e2]; exact hs, by rw [e2]; exact hi, by rw [e2]; exact hm, .inr ⟨by rw [e1]; exact h1, by rw [e1, e2]; exact h2⟩⟩
theorem AhRel.up (h : AhRel W d t pb (i + 1) w) : AhRel W d t pb (i + 1) w := h
theorem ah_down (h : AhRel W d t pb i w) : ∃ c s, PX W c 1 2 3 4 w pb d (some t) cfA s ∧ ((s.D.dead = false ∧ AhLive W d t pb i c w s) ∨ (s.D.dead = true)) ∧ (∃ st, Saf cfA s.D s.es st) ∧ (s.D.dead = true → s.D.down) ∧ (∀ e ∈ s.es, e.may = true) ∧ (streamB s.es).length = s.es.length * 25 ∧ s.es.length ≤ i := by
 obtain ⟨c, s, hp, hs, hi, hm, h⟩ := h
 refine ⟨c, s, hp, ?_, ?_, ?_, hm, hs, hi⟩
 · rcases h with ⟨h1, Cd, h2⟩ | ⟨h1, -⟩
   · exact .inl ⟨h2.dead, hp, hs, hm, h1, Cd, h2⟩
   · exact .inr h1.1
 · rcases h with ⟨h1, Cd, h2⟩ | ⟨-, h2⟩
   · exact ⟨_, h2.saf⟩
   · exact h2
 · rcases h with ⟨h1, Cd, h2⟩ | ⟨h1, -⟩
   · intro e
     rw [h2.dead] at e
     cases e
   · exact fun _ => h1
theorem AhLive.calm {w' : World} (h : AhLive W d t pb i c w s) (hs : Still w w') : AhLive W d t pb i c w' s := ⟨h.1.calm dif1 hs, h.2⟩
end
def EnRel (W : World) (d st : Nat) (es : List PE) (wr : World) : Prop := ∃ A D, D.dead = false ∧ FinD W d wr es st A D
set_option maxHeartbeats 16000000 in
set_option maxRecDepth 100000 in
theorem ahead_walk (W : World) (xa : Option Addr) (m xc : Nat) (L : List Int) (az : Int) (ma : Option Addr) (mm mc : Nat) (K : List Int) (hl : Sl W (fun g => g < W.heap.size) 1 (.slice xa m xc) m (bc L) ∧ L.length = m ∧ Byt L) (a0 : 0 ≤ az) (hk : Sl W (fun g => g < W.heap.size) 1 (.slice ma mm mc) mm (bc K) ∧ K.length = mm ∧ Byt K) :
 Calls Tryz.prog 8 #[.slice xa m xc, .int .u8 az, .slice ma mm mc] W (BTrue W) := by
 have HBG := Lib.hid (begun_any W)
 have HL := Lib.hid hl
 have HK := Lib.hid hk
 clear hl hk
 by_cases hbad : 20 < m
 · have b1 : decide ((20 : Int) < (m : Int)) = true := decide_eq_true (by omega)
   have b2 : decide (20 < m) = true := decide_eq_true hbad
   clear hbad
   go_enter Tryz.func8, Tryz.ntmps8
   go_wp2_with fail
   refine HBG.out.mono ?_
   rintro en w1 ⟨rfl, hs1⟩
   have F := Lib.hid (show BTrue W (.returned (.bool true)) w1 from ⟨rfl, hs1⟩)
   clear hs1 HBG
   go_wp2_with fail
   go_ret
   exact F.out
 have b1 : decide ((20 : Int) < (m : Int)) = false := decide_eq_false (by omega)
 have b2 : decide (20 < m) = false := decide_eq_false hbad
 have HM := Lib.hid (show m ≤ 20 from by omega)
 clear hbad
 by_cases hbad : 8 < mm
 · have b3 : decide ((8 : Int) < (mm : Int)) = true := decide_eq_true (by omega)
   have b4 : decide (8 < mm) = true := decide_eq_true hbad
   clear hbad
   go_enter Tryz.func8, Tryz.ntmps8
   go_wp2_with fail
   refine HBG.out.mono ?_
   rintro en w1 ⟨rfl, hs1⟩
   have F := Lib.hid (show BTrue W (.returned (.bool true)) w1 from ⟨rfl, hs1⟩)
   clear hs1 HBG
   go_wp2_with fail
   go_ret
   exact F.out
 have b3 : decide ((8 : Int) < (mm : Int)) = false := decide_eq_false (by omega)
 have b4 : decide (8 < mm) = false := decide_eq_false hbad
 have HMM := Lib.hid (show mm ≤ 8 from by omega)
 clear hbad
 obtain ⟨an, han⟩ : ∃ k : Nat, az % 50 = (k : Int) := ⟨(az % 50).toNat, by omega⟩
 have HAN := Lib.hid (show an < 50 from by omega)
 have z5 : az.tmod 50 = (an : Int) := by rw [Int.tmod_eq_emod_of_nonneg a0]; exact han
 have y5 : IntKind.i64.wrap (an : Int) = (an : Int) := IntWalk.i64_in _ (by have := HAN.out; omega)
 clear han a0
 go_enter Tryz.func8, Tryz.ntmps8
 go_wp2_with fail
 refine HBG.out.mono ?_
 rintro en w1 ⟨rfl, hs1⟩
 have L1 := Lg.start hs1
 have HN := Lib.hid (dnew_any L1.low 1 (fun _ e => by cases e) 60 (by decide) rfl)
 have H1 := Lib.hid L1
 clear hs1 L1 HBG
 go_wp2_with fail
 refine HN.out.mono ?_
 rintro en w2 ⟨d, c2, rfl, hs2, hd2⟩
 have L2 := H1.out.step hs2 fun e => e
 have n2 := Lg.none (j := 2) hs2 H1.out.low (fun _ e => by cases e) (fun e => by cases e) (by decide)
 have HO := Lib.hid (dopen_new (b := 2) (m := 60) (at_ := 16) (n := 44) L2.low hd2 (by decide) (by decide) n2 (by decide) (by decide) (by decide) rfl rfl)
 have H2 := Lib.hid L2
 clear hs2 hd2 L2 n2 HN H1
 go_wp2_with fail
 refine HO.out.mono ?_
 rintro en w3 ⟨t, la, lc, c3, rfl, hs3, hd3, ht3⟩
 have L3 := H2.out.step hs3 fun e => by cases e
 have hD3 : Dt c3 1 2 w3 d (some t) cfA ⟨newD 60, [], 0, mkHd PFr.void 1⟩ := ⟨L3.low, hd3, fun t' e => (by cases e; exact ht3), rfl, newD_fine 60, newD_byt 60, by decide, fun _ => ⟨by decide, by decide⟩, by decide⟩
 have HNP := Lib.hid (px_new (m := 3) (r := 4) L3 hD3 dif1 3 3 (by decide) rfl rfl)
 clear hs3 hd3 ht3 L3 hD3 HO H2
 go_wp2_with fail
 refine HNP.out.mono ?_
 rintro en w4 ⟨pb, c4, rfl, -, hx4⟩
 have HAR := Lib.hid (px_arm hx4 dif1 (an : Int) (by have := HAN.out; omega) ma mm mc K HK.out.1 HK.out.2.2 (by have := HMM.out; omega))
 clear hx4 HNP
 go_wp2_with fail
 refine HAR.out.mono ?_
 rintro en w5 ⟨rfl, c5, hx5⟩
 have HREL := Lib.hid (show AhRel W d t pb 0 w5 from ⟨c5, _, hx5, rfl, Nat.le_refl _, (fun e he => by cases he), .inl ⟨rfl, _, new_safe rfl (by decide) (by decide) (by decide) (arm_fine (by have := HAN.out; omega))⟩⟩)
 clear hx5 HAR
 go_wp2_with fail
 go_loopw [12] (fun s12 wr => ∃ i : Nat, s12 = .int .i64 i ∧ i ≤ m ∧ AhRel W d t pb i wr) (fun s12 _ => m - (intOf s12).toNat)
 case atStart => exact ⟨0, rfl, Nat.zero_le _, HREL.out⟩
 clear HREL
 obtain ⟨i, rfl, him, hrel⟩ := hrel
 obtain ⟨c, s, hx, hlv, hsf, hdn, hmy, hst, hle⟩ := ah_down hrel
 have HDE := Lib.hid (px_dead hx)
 obtain ⟨q, hq⟩ : ∃ q, s.D.dead = q := ⟨_, rfl⟩
 rw [hq] at HDE hlv hdn
 have HQ := Lib.hid hq
 have HS := Lib.hid (And.intro hx (And.intro hlv (And.intro hsf (And.intro hdn (And.intro hmy (And.intro hst hle))))))
 clear hrel hx hlv hsf hdn hmy hst hle hq
 have HIM := Lib.hid him
 by_cases hgo : i < m ∧ q = false
 · obtain ⟨hi, rfl⟩ := hgo
   have d1 : decide ((i : Int) < (m : Int)) = true := decide_eq_true (by omega)
   have d2 : decide (i < m) = true := decide_eq_true hi
   have hlt : (i : Int) < (m : Int) := by omega
   have HI := Lib.hid (And.intro hi HM.out)
   have hlive := (HS.out.2.1.resolve_right fun e => by cases e).2
   have HAP := Lib.hid (ah_append hlive (by have := HI.out; omega))
   obtain ⟨z, hz⟩ : ∃ z, L[i]? = some z := ⟨_, List.getElem?_eq_getElem (by have := HL.out.2.1; omega)⟩
   have hzb := HL.out.2.2 z (List.mem_of_getElem? hz)
   obtain ⟨zn, rfl⟩ : ∃ zn : Nat, z = (zn : Int) := ⟨z.toNat, by omega⟩
   obtain ⟨g, o, cc, he, -, -, hcs⟩ := HL.out.1.pos (by omega)
   cases he
   have hcw : W.cell? ⟨g, o + i, none⟩ = some (.int .u8 zn) := hcs i _ (bc_get hz)
   have HCW := Lib.hid (fun w' (hs : Still W w') => Still.cell hs hcw)
   have l0 : (0 : Int) ≤ (i : Int) := by omega
   have u1 : IntKind.i64.wrap ((i : Int) + 1) = (i : Int) + 1 := IntWalk.i64_in _ (by have := HI.out; omega)
   obtain ⟨kn, hkn⟩ : ∃ k : Nat, (zn : Int).tmod 8 = (k : Int) := ⟨((zn : Int).tmod 8).toNat, by rw [Int.tmod_eq_emod_of_nonneg (by omega)]; omega⟩
   have HKN := Lib.hid (show kn < 8 from by rw [Int.tmod_eq_emod_of_nonneg (by omega)] at hkn; omega)
   have wk : IntKind.i64.wrap (kn : Int) = (kn : Int) := IntWalk.i64_in _ (by have := HKN.out; omega)
   have HZB := Lib.hid hzb
   clear hlive hz hzb hcs hcw hi HS him
   go_wp2_with fail
   refine HDE.out.mono ?_
   rintro en wx ⟨rfl, rfl⟩
   go_wp2_with fail
   refine HAP.out.mono ?_
   rintro en wa ⟨rfl, ca, sa, hla⟩
   have hca := HCW.out wa hla.1.lg.still
   have HLA := Lib.hid hla
   clear hla HAP HDE
   have HR := Lib.hid (fun w' => row_any w' (letS zn) ⟨#[]⟩ ⟨#[]⟩ 1 0 0 (str_size [97 + (zn : Int) % 26]) rfl rfl (by decide) (by decide) (by decide) (by decide))
   have q1 : (convert 22 9 (.slice (some ⟨wa.heap.size, 0, none⟩) 1 1)).run Tryz.prog (wa.alloc (.cells #[.int .u8 (97 + (zn : Int) % 26)] 5)) = .ok (.string (letS zn)) (wa.alloc (.cells #[.int .u8 (97 + (zn : Int) % 26)] 5)) :=
    conv_at ((cellsAt_new wa [.int .u8 (97 + (zn : Int) % 26)] 5).cell 0)
   go_wp2_with fail
   refine (HR.out _).mono ?_
   rintro en wb ⟨v, rfl, hv, hbl, hgv⟩
   have hsb : Still wa wb := ((Still.refl wa).alloc _).trans (Still.of hbl)
   have hmi : ∃ R, Mine ca wb R 26 v (bc (rowC (97 + (zn : Int) % 26) [] [])) := by
    rw [← letR]
    have hz1 : (wa.alloc (.cells #[.int .u8 (97 + (zn : Int) % 26)] 5)).heap.size = wa.heap.size + 1 := by simp
    exact ⟨_, mine_new HLA.out.1.lg.low hv fun g e => ⟨by have := hgv g e; omega, (hgv g e).2⟩⟩
   have hlb := HLA.out.calm hsb
   have hcb := HCW.out wb hlb.1.lg.still
   obtain ⟨va, vc, rfl⟩ := hv.form'
   have HB := Lib.hid (And.intro hlb hmi)
   clear hv hbl hgv hsb hmi hlb HR q1 hca HLA
   have HST := Lib.hid (fun wb' (hs' : Still wb wb') j (j0 : 0 ≤ j) (j4 : j < 4) => show Calls Tryz.prog 17 #[.pointer (some ⟨pb, 0, none⟩), .int .i64 kn, .int .i64 j, .slice va 26 vc, .int .i64 ((i : Int) + 1)] wb' (fun e w' => (∃ E, e = .returned (.int .i64 E)) ∧ AhRel W d t pb (i + 1) w') from by
    obtain ⟨R, hm⟩ := HB.out.2
    exact ah_set (HB.out.1.calm hs') (by have := HI.out; omega) (k := (kn : Int)) (by omega) (by have := HKN.out; omega) j0 j4 (zn : Int) ⟨hm.1.still hs', fun g e => ⟨(hm.2 g e).1, Nat.lt_of_lt_of_le (hm.2 g e).2 hs'.size⟩⟩)
   have HSC := Lib.hid (fun w' (hs : Still wb w') => Still.cell hs hcb)
   have HJ := Lib.hid (show 0 ≤ IntKind.i64.wrap ((IntKind.u8.wrap ((zn : Int) / 8)).tmod 4) ∧ IntKind.i64.wrap ((IntKind.u8.wrap ((zn : Int) / 8)).tmod 4) < 4 from by
    have := HZB.out
    rw [IntKind.wrap_u8, Int.tmod_eq_emod_of_nonneg (by omega), IntWalk.i64_in _ (by omega)]
    omega)
   go_upto_region 18 with fail
   go_region_held3 (fun w' => w'.cell? ⟨g, o + i, none⟩ = some (.int .u8 zn)) (first | exact HSC.out _ (still_drew _) | exact HSC.out _ (by assumption) | exact HCW.out _ (by assumption)) (first
    | (go_at_call 17; (with_reducible refine (HST.out _ (still_drew _) (IntKind.i64.wrap ((IntKind.u8.wrap ((zn : Int) / 8)).tmod 4)) HJ.out.1 HJ.out.2).mono ?_); rintro en wc ⟨⟨E, rfl⟩, hrel⟩; have HREL := Lib.hid hrel; have hWc : Still W wc := hrel.st; clear hrel))
   have hcc := HCW.out wc HREL.out.st
   clear HST HSC HJ hcb HB hWc
   obtain ⟨yn, hyn⟩ : ∃ k : Nat, (zn : Int) / 3 % 8 = (k : Int) := ⟨((zn : Int) / 3 % 8).toNat, by omega⟩
   have HYN := Lib.hid (show yn < 8 from by omega)
   have HFL := Lib.hid (fun wc' (hs : AhRel W d t pb (i + 1) wc') => ah_flush hs (k := (yn : Int)) (by omega) (by have := HYN.out; omega))
   have wy : IntKind.i64.wrap (yn : Int) = (yn : Int) := IntWalk.i64_in _ (by have := HYN.out; omega)
   by_cases h3 : (zn : Int) % 3 = 0
   · have e1 : ((zn : Int) % 3 == 0) = true := by rw [h3]; rfl
     have e2 : decide ((zn : Int) % 3 = 0) = true := decide_eq_true h3
     clear h3
     go_wp2_with fail
     refine (HFL.out _ HREL.out).mono ?_
     rintro en wd ⟨⟨E2, rfl⟩, hrel⟩
     have HN := Lib.hid hrel
     clear hrel HFL HREL
     go_wp2_with fail
     go_roundw
     case rel => exact ⟨i + 1, by go_num, by have := HI.out; omega, HN.out⟩
     case measure => simp [intOf]; have := HI.out; omega
   have e1 : ((zn : Int) % 3 == 0) = false := by simpa using h3
   have e2 : decide ((zn : Int) % 3 = 0) = false := decide_eq_false h3
   clear h3
   go_wp2_with fail
   go_roundw
   case rel => exact ⟨i + 1, by go_num, by have := HI.out; omega, HREL.out⟩
   case measure => simp [intOf]; have := HI.out; omega
 obtain ⟨st, hsaf⟩ := HS.out.2.2.1
 have HSAF := Lib.hid hsaf
 clear hsaf
 cases q with
 | true =>
  have hfin := px_fin HS.out.1 (HS.out.2.2.2.1 rfl) HSAF.out
  clear hgo him
  by_cases hi : i < m
  · have d1 : decide ((i : Int) < (m : Int)) = true := decide_eq_true (by omega)
    have d2 : decide (i < m) = true := decide_eq_true hi
    clear hi
    go_wp2_with fail
    refine HDE.out.mono ?_
    rintro en wx ⟨rfl, rfl⟩
    go_wp2_with fail
    refine HDE.out.mono ?_
    rintro en wx ⟨rfl, rfl⟩
    go_wp2_with fail
    refine (fin_power hfin).mono ?_
    rintro en wp ⟨rfl, D2, hd2, hf2⟩
    have HOP := Lib.hid (fin_open hf2 hd2 HS.out.2.2.2.2.1 (by rw [HS.out.2.2.2.2.2.1]; have := HS.out.2.2.2.2.2.2; have := HIM.out; have := HM.out; omega))
    clear hfin hd2 hf2
    go_wp2_with fail
    refine HOP.out.mono ?_
    rintro en wo ⟨tp, la2, lc2, es2, A3, D3, rfl, hd3, hf3⟩
    have HEN := Lib.hid (show EnRel W d st es2 wo from ⟨A3, D3, hd3, hf3⟩)
    have HLE := Lib.hid hf3.saf.st_le
    obtain ⟨en2, hen2⟩ : ∃ k, es2.length = k := ⟨_, rfl⟩
    rw [hen2] at HLE ⊢
    clear hd3 hf3 HOP hen2
    go_wp2_with fail
    go_loopw [20] (fun s20 wr => ∃ k : Nat, s20 = .int .i64 k ∧ k ≤ 8 ∧ EnRel W d st es2 wr) (fun s20 _ => 8 - (intOf s20).toNat)
    case atStart => exact ⟨0, rfl, by decide, HEN.out⟩
    clear HEN
    obtain ⟨k, rfl, hk8, hrel⟩ := hrel
    by_cases hk : k < 8
    rotate_left
    · have d3 : decide ((k : Int) < 8) = false := decide_eq_false (by omega)
      have d4 : decide (k < 8) = false := decide_eq_false hk
      have F := Lib.hid (show BTrue W (.returned (.bool true)) wr from by
       obtain ⟨A, D, -, h⟩ := hrel
       exact ⟨rfl, h.still⟩)
      clear hk hk8 hrel
      go_wp2_with fail
      go_ret
      exact F.out
    have d3 : decide ((k : Int) < 8) = true := decide_eq_true (by omega)
    have d4 : decide (k < 8) = true := decide_eq_true hk
    have HKK := Lib.hid hk
    have uk : IntKind.i64.wrap ((k : Int) + 1) = (k : Int) + 1 := IntWalk.i64_in _ (by omega)
    obtain ⟨A, D, hdd, hfd⟩ := hrel
    obtain ⟨ta, hta, hba, hra⟩ := fin_read hfd hdd (2 * k) (by omega)
    obtain ⟨k2, hk2⟩ : ∃ j, 2 * k = j := ⟨_, rfl⟩
    rw [hk2] at hta hra
    have e1 : (2 : Int) * (k : Int) = (k2 : Int) := by omega
    have u2 : IntKind.i64.wrap (k2 : Int) = (k2 : Int) := IntWalk.i64_in _ (by omega)
    have u3 : IntKind.i64.wrap ((k2 : Int) + 1) = (k2 : Int) + 1 := IntWalk.i64_in _ (by omega)
    have HRA := Lib.hid hra
    have HD := Lib.hid (And.intro hdd (And.intro hfd (And.intro hta (And.intro hba hk2))))
    clear hdd hfd hta hba hra hk2 hk hk8
    go_wp2_with fail
    refine HRA.out.mono ?_
    rintro en wa ⟨x, rfl, hvx, hsx, hgx⟩
    obtain ⟨xa, xc, rfl⟩ := hvx.form'
    have HDA := Lib.hid (And.intro (HD.out.2.1.calm hsx) hvx)
    have HGX := Lib.hid hgx
    obtain ⟨tb, htb, hbb, hrb⟩ := fin_read HDA.out.1 HD.out.1 (k2 + 1) (by have := HD.out.2.2.2.2; have := HKK.out; omega)
    have HRB := Lib.hid (show Calls Tryz.prog 31 #[.pointer (some ⟨d, 0, none⟩), .int .i64 ((k2 : Int) + 1)] wa _ from hrb)
    have HTB := Lib.hid (And.intro htb hbb)
    clear hvx hsx hgx htb hbb hrb HRA
    go_wp2_with fail
    refine HRB.out.mono ?_
    rintro en wb ⟨y, rfl, hvy, hsy, hgy⟩
    obtain ⟨ya, yc, rfl⟩ := hvy.form'
    have hvx := (Vec.sl (Q := fun _ => True) HDA.out.2 fun g hg => ⟨trivial, (HGX.out g hg).2⟩).still hsy
    have hvy2 := Vec.sl (Q := fun _ => True) hvy fun g hg => ⟨trivial, (hgy g hg).2⟩
    have hfb := HDA.out.1.calm hsy
    have hokt := hfb.saf.read (k := (k : Int)) (by omega) (by show (k : Int) < ((8 : Nat) : Int); have := HKK.out; omega) (a := ta) (b := tb) (by
     show D.T[0 + (2 * (k : Int)).toNat]? = some ta
     rw [show 0 + (2 * (k : Int)).toNat = k2 by have := HD.out.2.2.2.2; omega]
     exact HD.out.2.2.1) (by
     show D.T[0 + (2 * (k : Int) + 1).toNat]? = some tb
     rw [show 0 + (2 * (k : Int) + 1).toNat = k2 + 1 by have := HD.out.2.2.2.2; omega]
     exact HTB.out.1)
    have HTL := Lib.hid (rtleaf_ok wb (.slice xa 64 xc) (.slice ya 64 yc) ta tb hvx (Vec.capOf HDA.out.2) HD.out.2.2.2.1 hvy2 (Vec.capOf hvy) HTB.out.2 (hokt.imp id fun e => ⟨e.1, e.2.2⟩))
    have HOKT := Lib.hid hokt
    have HFB := Lib.hid hfb
    clear hvx hvy hvy2 hsy hgy hfb hokt HRB
    go_wp2_with fail
    refine HTL.out.mono ?_
    intro en wc hp
    obtain ⟨hp, hsc⟩ := hp
    have HNX := Lib.hid (fun w' (hs : Still wc w') => show EnRel W d st es2 w' from ⟨A, D, HD.out.1, (HFB.out.calm hsc).calm hs⟩)
    clear HTL hsc
    by_cases h3 : (takeT ta tb).1 = 3
    · rw [if_pos h3] at hp
      subst hp
      have HCN := Lib.hid (fun tt => cellsAt_new wc [.slice none 0 0, .slice none 0 0, .slice none 0 0, .slice none 0 0, .int .i64 0] tt)
      clear h3
      go_wp2_with ((with_reducible (show wpList _ _ _ ({ dst := none, op := Op.store 36 _ _, type := _, pos := _, after := _, guard := _ } :: _) _ _)); (refine wpList_storeAgg rfl 36 _ _ rfl wc.heap.size #[.slice none 0 0, .slice none 0 0, .slice none 0 0, .slice none 0 0, .int .i64 0] rfl rfl (HCN.out _) size_page rfl rfl ?_; intro wd hcf hof hzf; have HF := Lib.hid (And.intro hcf (And.intro hof hzf)); clear hcf hof hzf))
      have hsw : Still wc wd := ((Still.refl wc).alloc _).andThen HF.out.2.1 fun x hx e => by have e' : x = wc.heap.size := e; omega
      have HN := Lib.hid (HNX.out wd hsw)
      clear hsw HNX HCN
      go_roundw
      case rel => exact ⟨k + 1, by go_num, by have := HKK.out; omega, HN.out⟩
      case measure => simp [intOf]; have := HKK.out; omega
    rw [if_neg h3] at hp
    obtain ⟨v0, v1, v2, v3, rfl, hone⟩ := hp
    obtain ⟨zz, hzz⟩ : ∃ z, (takeT ta tb).2.lsn = z := ⟨_, rfl⟩
    rw [hzz]
    have hlsn : zz ≤ (en2 : Int) := by
     rcases HOKT.out with e | e
     · exact absurd e h3
     · have h1 := e.2.1
       rw [hzz] at h1
       have := HLE.out
       omega
    have q1 : decide ((en2 : Int) < zz) = false := decide_eq_false (by omega)
    have HONE := Lib.hid (show (#[v0, v1, v2, v3, .int .i64 zz] : Array Value).toList.all (·.oneCell') = true from by
     rw [List.all_eq_true]
     intro y hy
     simp only [List.mem_cons, List.not_mem_nil, or_false] at hy
     rcases hy with rfl | rfl | rfl | rfl | rfl
     · exact hone _ (by simp)
     · exact hone _ (by simp)
     · exact hone _ (by simp)
     · exact hone _ (by simp)
     · rfl)
    have HCN := Lib.hid (fun tt => cellsAt_new wc [.slice none 0 0, .slice none 0 0, .slice none 0 0, .slice none 0 0, .int .i64 0] tt)
    clear h3 hone hzz hlsn
    go_upto_region 33 with ((with_reducible (show wpList _ _ _ ({ dst := none, op := Op.store 36 _ _, type := _, pos := _, after := _, guard := _ } :: _) _ _)); (refine wpList_storeAgg rfl 36 _ _ rfl wc.heap.size #[v0, v1, v2, v3, .int .i64 zz] rfl rfl (HCN.out _) size_page rfl HONE.out ?_; intro wd hcf hof hzf; have HF := Lib.hid (And.intro hcf (And.intro hof hzf)); clear hcf hof hzf))
    have hsw : Still wc wd := ((Still.refl wc).alloc _).andThen HF.out.2.1 fun x hx e => by have e' : x = wc.heap.size := e; omega
    have HN := Lib.hid (HNX.out wd hsw)
    have a4 : wd.cell? ⟨wc.heap.size, 4, none⟩ = some (.int .i64 zz) := HF.out.1.cell 4
    clear hsw HNX HCN
    go_wp2_with fail
    go_roundw
    case rel => exact ⟨k + 1, by go_num, by have := HKK.out; omega, HN.out⟩
    case measure => simp [intOf]; have := HKK.out; omega
  have d1 : decide ((i : Int) < (m : Int)) = false := decide_eq_false (by omega)
  have d2 : decide (i < m) = false := decide_eq_false hi
  clear hi
  go_wp2_with fail
  refine HDE.out.mono ?_
  rintro en wx ⟨rfl, rfl⟩
  go_wp2_with fail
  refine (fin_power hfin).mono ?_
  rintro en wp ⟨rfl, D2, hd2, hf2⟩
  have HOP := Lib.hid (fin_open hf2 hd2 HS.out.2.2.2.2.1 (by rw [HS.out.2.2.2.2.2.1]; have := HS.out.2.2.2.2.2.2; have := HIM.out; have := HM.out; omega))
  clear hfin hd2 hf2
  go_wp2_with fail
  refine HOP.out.mono ?_
  rintro en wo ⟨tp, la2, lc2, es2, A3, D3, rfl, hd3, hf3⟩
  have HEN := Lib.hid (show EnRel W d st es2 wo from ⟨A3, D3, hd3, hf3⟩)
  have HLE := Lib.hid hf3.saf.st_le
  obtain ⟨en2, hen2⟩ : ∃ k, es2.length = k := ⟨_, rfl⟩
  rw [hen2] at HLE ⊢
  clear hd3 hf3 HOP hen2
  go_wp2_with fail
  go_loopw [20] (fun s20 wr => ∃ k : Nat, s20 = .int .i64 k ∧ k ≤ 8 ∧ EnRel W d st es2 wr) (fun s20 _ => 8 - (intOf s20).toNat)
  case atStart => exact ⟨0, rfl, by decide, HEN.out⟩
  clear HEN
  obtain ⟨k, rfl, hk8, hrel⟩ := hrel
  by_cases hk : k < 8
  rotate_left
  · have d3 : decide ((k : Int) < 8) = false := decide_eq_false (by omega)
    have d4 : decide (k < 8) = false := decide_eq_false hk
    have F := Lib.hid (show BTrue W (.returned (.bool true)) wr from by
     obtain ⟨A, D, -, h⟩ := hrel
     exact ⟨rfl, h.still⟩)
    clear hk hk8 hrel
    go_wp2_with fail
    go_ret
    exact F.out
  have d3 : decide ((k : Int) < 8) = true := decide_eq_true (by omega)
  have d4 : decide (k < 8) = true := decide_eq_true hk
  have HKK := Lib.hid hk
  have uk : IntKind.i64.wrap ((k : Int) + 1) = (k : Int) + 1 := IntWalk.i64_in _ (by omega)
  obtain ⟨A, D, hdd, hfd⟩ := hrel
  obtain ⟨ta, hta, hba, hra⟩ := fin_read hfd hdd (2 * k) (by omega)
  obtain ⟨k2, hk2⟩ : ∃ j, 2 * k = j := ⟨_, rfl⟩
  rw [hk2] at hta hra
  have e1 : (2 : Int) * (k : Int) = (k2 : Int) := by omega
  have u2 : IntKind.i64.wrap (k2 : Int) = (k2 : Int) := IntWalk.i64_in _ (by omega)
  have u3 : IntKind.i64.wrap ((k2 : Int) + 1) = (k2 : Int) + 1 := IntWalk.i64_in _ (by omega)
  have HRA := Lib.hid hra
  have HD := Lib.hid (And.intro hdd (And.intro hfd (And.intro hta (And.intro hba hk2))))
  clear hdd hfd hta hba hra hk2 hk hk8
  go_wp2_with fail
  refine HRA.out.mono ?_
  rintro en wa ⟨x, rfl, hvx, hsx, hgx⟩
  obtain ⟨xa, xc, rfl⟩ := hvx.form'
  have HDA := Lib.hid (And.intro (HD.out.2.1.calm hsx) hvx)
  have HGX := Lib.hid hgx
  obtain ⟨tb, htb, hbb, hrb⟩ := fin_read HDA.out.1 HD.out.1 (k2 + 1) (by have := HD.out.2.2.2.2; have := HKK.out; omega)
  have HRB := Lib.hid (show Calls Tryz.prog 31 #[.pointer (some ⟨d, 0, none⟩), .int .i64 ((k2 : Int) + 1)] wa _ from hrb)
  have HTB := Lib.hid (And.intro htb hbb)
  clear hvx hsx hgx htb hbb hrb HRA
  go_wp2_with fail
  refine HRB.out.mono ?_
  rintro en wb ⟨y, rfl, hvy, hsy, hgy⟩
  obtain ⟨ya, yc, rfl⟩ := hvy.form'
  have hvx := (Vec.sl (Q := fun _ => True) HDA.out.2 fun g hg => ⟨trivial, (HGX.out g hg).2⟩).still hsy
  have hvy2 := Vec.sl (Q := fun _ => True) hvy fun g hg => ⟨trivial, (hgy g hg).2⟩
  have hfb := HDA.out.1.calm hsy
  have hokt := hfb.saf.read (k := (k : Int)) (by omega) (by show (k : Int) < ((8 : Nat) : Int); have := HKK.out; omega) (a := ta) (b := tb) (by
   show D.T[0 + (2 * (k : Int)).toNat]? = some ta
   rw [show 0 + (2 * (k : Int)).toNat = k2 by have := HD.out.2.2.2.2; omega]
   exact HD.out.2.2.1) (by
   show D.T[0 + (2 * (k : Int) + 1).toNat]? = some tb
   rw [show 0 + (2 * (k : Int) + 1).toNat = k2 + 1 by have := HD.out.2.2.2.2; omega]
   exact HTB.out.1)
  have HTL := Lib.hid (rtleaf_ok wb (.slice xa 64 xc) (.slice ya 64 yc) ta tb hvx (Vec.capOf HDA.out.2) HD.out.2.2.2.1 hvy2 (Vec.capOf hvy) HTB.out.2 (hokt.imp id fun e => ⟨e.1, e.2.2⟩))
  have HOKT := Lib.hid hokt
  have HFB := Lib.hid hfb
  clear hvx hvy hvy2 hsy hgy hfb hokt HRB
  go_wp2_with fail
  refine HTL.out.mono ?_
  intro en wc hp
  obtain ⟨hp, hsc⟩ := hp
  have HNX := Lib.hid (fun w' (hs : Still wc w') => show EnRel W d st es2 w' from ⟨A, D, HD.out.1, (HFB.out.calm hsc).calm hs⟩)
  clear HTL hsc
  by_cases h3 : (takeT ta tb).1 = 3
  · rw [if_pos h3] at hp
    subst hp
    have HCN := Lib.hid (fun tt => cellsAt_new wc [.slice none 0 0, .slice none 0 0, .slice none 0 0, .slice none 0 0, .int .i64 0] tt)
    clear h3
    go_wp2_with ((with_reducible (show wpList _ _ _ ({ dst := none, op := Op.store 36 _ _, type := _, pos := _, after := _, guard := _ } :: _) _ _)); (refine wpList_storeAgg rfl 36 _ _ rfl wc.heap.size #[.slice none 0 0, .slice none 0 0, .slice none 0 0, .slice none 0 0, .int .i64 0] rfl rfl (HCN.out _) size_page rfl rfl ?_; intro wd hcf hof hzf; have HF := Lib.hid (And.intro hcf (And.intro hof hzf)); clear hcf hof hzf))
    have hsw : Still wc wd := ((Still.refl wc).alloc _).andThen HF.out.2.1 fun x hx e => by have e' : x = wc.heap.size := e; omega
    have HN := Lib.hid (HNX.out wd hsw)
    clear hsw HNX HCN
    go_roundw
    case rel => exact ⟨k + 1, by go_num, by have := HKK.out; omega, HN.out⟩
    case measure => simp [intOf]; have := HKK.out; omega
  rw [if_neg h3] at hp
  obtain ⟨v0, v1, v2, v3, rfl, hone⟩ := hp
  obtain ⟨zz, hzz⟩ : ∃ z, (takeT ta tb).2.lsn = z := ⟨_, rfl⟩
  rw [hzz]
  have hlsn : zz ≤ (en2 : Int) := by
   rcases HOKT.out with e | e
   · exact absurd e h3
   · have h1 := e.2.1
     rw [hzz] at h1
     have := HLE.out
     omega
  have q1 : decide ((en2 : Int) < zz) = false := decide_eq_false (by omega)
  have HONE := Lib.hid (show (#[v0, v1, v2, v3, .int .i64 zz] : Array Value).toList.all (·.oneCell') = true from by
   rw [List.all_eq_true]
   intro y hy
   simp only [List.mem_cons, List.not_mem_nil, or_false] at hy
   rcases hy with rfl | rfl | rfl | rfl | rfl
   · exact hone _ (by simp)
   · exact hone _ (by simp)
   · exact hone _ (by simp)
   · exact hone _ (by simp)
   · rfl)
  have HCN := Lib.hid (fun tt => cellsAt_new wc [.slice none 0 0, .slice none 0 0, .slice none 0 0, .slice none 0 0, .int .i64 0] tt)
  clear h3 hone hzz hlsn
  go_upto_region 33 with ((with_reducible (show wpList _ _ _ ({ dst := none, op := Op.store 36 _ _, type := _, pos := _, after := _, guard := _ } :: _) _ _)); (refine wpList_storeAgg rfl 36 _ _ rfl wc.heap.size #[v0, v1, v2, v3, .int .i64 zz] rfl rfl (HCN.out _) size_page rfl HONE.out ?_; intro wd hcf hof hzf; have HF := Lib.hid (And.intro hcf (And.intro hof hzf)); clear hcf hof hzf))
  have hsw : Still wc wd := ((Still.refl wc).alloc _).andThen HF.out.2.1 fun x hx e => by have e' : x = wc.heap.size := e; omega
  have HN := Lib.hid (HNX.out wd hsw)
  have a4 : wd.cell? ⟨wc.heap.size, 4, none⟩ = some (.int .i64 zz) := HF.out.1.cell 4
  clear hsw HNX HCN
  go_wp2_with fail
  go_roundw
  case rel => exact ⟨k + 1, by go_num, by have := HKK.out; omega, HN.out⟩
  case measure => simp [intOf]; have := HKK.out; omega
 | false =>
  have hi : ¬ i < m := fun e => hgo ⟨e, rfl⟩
  have d1 : decide ((i : Int) < (m : Int)) = false := decide_eq_false (by omega)
  have d2 : decide (i < m) = false := decide_eq_false hi
  clear hi hgo him
  have HCR := Lib.hid (px_crash HS.out.1 HSAF.out ma mm mc K HK.out.1 HK.out.2.2)
  go_wp2_with fail
  refine HDE.out.mono ?_
  rintro en wx ⟨rfl, rfl⟩
  go_wp2_with fail
  refine HCR.out.mono ?_
  rintro en wq ⟨rfl, A0, D0, hfin⟩
  clear HCR
  go_wp2_with fail
  refine (fin_power hfin).mono ?_
  rintro en wp ⟨rfl, D2, hd2, hf2⟩
  have HOP := Lib.hid (fin_open hf2 hd2 HS.out.2.2.2.2.1 (by rw [HS.out.2.2.2.2.2.1]; have := HS.out.2.2.2.2.2.2; have := HIM.out; have := HM.out; omega))
  clear hfin hd2 hf2
  go_wp2_with fail
  refine HOP.out.mono ?_
  rintro en wo ⟨tp, la2, lc2, es2, A3, D3, rfl, hd3, hf3⟩
  have HEN := Lib.hid (show EnRel W d st es2 wo from ⟨A3, D3, hd3, hf3⟩)
  have HLE := Lib.hid hf3.saf.st_le
  obtain ⟨en2, hen2⟩ : ∃ k, es2.length = k := ⟨_, rfl⟩
  rw [hen2] at HLE ⊢
  clear hd3 hf3 HOP hen2
  go_wp2_with fail
  go_loopw [20] (fun s20 wr => ∃ k : Nat, s20 = .int .i64 k ∧ k ≤ 8 ∧ EnRel W d st es2 wr) (fun s20 _ => 8 - (intOf s20).toNat)
  case atStart => exact ⟨0, rfl, by decide, HEN.out⟩
  clear HEN
  obtain ⟨k, rfl, hk8, hrel⟩ := hrel
  by_cases hk : k < 8
  rotate_left
  · have d3 : decide ((k : Int) < 8) = false := decide_eq_false (by omega)
    have d4 : decide (k < 8) = false := decide_eq_false hk
    have F := Lib.hid (show BTrue W (.returned (.bool true)) wr from by
     obtain ⟨A, D, -, h⟩ := hrel
     exact ⟨rfl, h.still⟩)
    clear hk hk8 hrel
    go_wp2_with fail
    go_ret
    exact F.out
  have d3 : decide ((k : Int) < 8) = true := decide_eq_true (by omega)
  have d4 : decide (k < 8) = true := decide_eq_true hk
  have HKK := Lib.hid hk
  have uk : IntKind.i64.wrap ((k : Int) + 1) = (k : Int) + 1 := IntWalk.i64_in _ (by omega)
  obtain ⟨A, D, hdd, hfd⟩ := hrel
  obtain ⟨ta, hta, hba, hra⟩ := fin_read hfd hdd (2 * k) (by omega)
  obtain ⟨k2, hk2⟩ : ∃ j, 2 * k = j := ⟨_, rfl⟩
  rw [hk2] at hta hra
  have e1 : (2 : Int) * (k : Int) = (k2 : Int) := by omega
  have u2 : IntKind.i64.wrap (k2 : Int) = (k2 : Int) := IntWalk.i64_in _ (by omega)
  have u3 : IntKind.i64.wrap ((k2 : Int) + 1) = (k2 : Int) + 1 := IntWalk.i64_in _ (by omega)
  have HRA := Lib.hid hra
  have HD := Lib.hid (And.intro hdd (And.intro hfd (And.intro hta (And.intro hba hk2))))
  clear hdd hfd hta hba hra hk2 hk hk8
  go_wp2_with fail
  refine HRA.out.mono ?_
  rintro en wa ⟨x, rfl, hvx, hsx, hgx⟩
  obtain ⟨xa, xc, rfl⟩ := hvx.form'
  have HDA := Lib.hid (And.intro (HD.out.2.1.calm hsx) hvx)
  have HGX := Lib.hid hgx
  obtain ⟨tb, htb, hbb, hrb⟩ := fin_read HDA.out.1 HD.out.1 (k2 + 1) (by have := HD.out.2.2.2.2; have := HKK.out; omega)
  have HRB := Lib.hid (show Calls Tryz.prog 31 #[.pointer (some ⟨d, 0, none⟩), .int .i64 ((k2 : Int) + 1)] wa _ from hrb)
  have HTB := Lib.hid (And.intro htb hbb)
  clear hvx hsx hgx htb hbb hrb HRA
  go_wp2_with fail
  refine HRB.out.mono ?_
  rintro en wb ⟨y, rfl, hvy, hsy, hgy⟩
  obtain ⟨ya, yc, rfl⟩ := hvy.form'
  have hvx := (Vec.sl (Q := fun _ => True) HDA.out.2 fun g hg => ⟨trivial, (HGX.out g hg).2⟩).still hsy
  have hvy2 := Vec.sl (Q := fun _ => True) hvy fun g hg => ⟨trivial, (hgy g hg).2⟩
  have hfb := HDA.out.1.calm hsy
  have hokt := hfb.saf.read (k := (k : Int)) (by omega) (by show (k : Int) < ((8 : Nat) : Int); have := HKK.out; omega) (a := ta) (b := tb) (by
   show D.T[0 + (2 * (k : Int)).toNat]? = some ta
   rw [show 0 + (2 * (k : Int)).toNat = k2 by have := HD.out.2.2.2.2; omega]
   exact HD.out.2.2.1) (by
   show D.T[0 + (2 * (k : Int) + 1).toNat]? = some tb
   rw [show 0 + (2 * (k : Int) + 1).toNat = k2 + 1 by have := HD.out.2.2.2.2; omega]
   exact HTB.out.1)
  have HTL := Lib.hid (rtleaf_ok wb (.slice xa 64 xc) (.slice ya 64 yc) ta tb hvx (Vec.capOf HDA.out.2) HD.out.2.2.2.1 hvy2 (Vec.capOf hvy) HTB.out.2 (hokt.imp id fun e => ⟨e.1, e.2.2⟩))
  have HOKT := Lib.hid hokt
  have HFB := Lib.hid hfb
  clear hvx hvy hvy2 hsy hgy hfb hokt HRB
  go_wp2_with fail
  refine HTL.out.mono ?_
  intro en wc hp
  obtain ⟨hp, hsc⟩ := hp
  have HNX := Lib.hid (fun w' (hs : Still wc w') => show EnRel W d st es2 w' from ⟨A, D, HD.out.1, (HFB.out.calm hsc).calm hs⟩)
  clear HTL hsc
  by_cases h3 : (takeT ta tb).1 = 3
  · rw [if_pos h3] at hp
    subst hp
    have HCN := Lib.hid (fun tt => cellsAt_new wc [.slice none 0 0, .slice none 0 0, .slice none 0 0, .slice none 0 0, .int .i64 0] tt)
    clear h3
    go_wp2_with ((with_reducible (show wpList _ _ _ ({ dst := none, op := Op.store 36 _ _, type := _, pos := _, after := _, guard := _ } :: _) _ _)); (refine wpList_storeAgg rfl 36 _ _ rfl wc.heap.size #[.slice none 0 0, .slice none 0 0, .slice none 0 0, .slice none 0 0, .int .i64 0] rfl rfl (HCN.out _) size_page rfl rfl ?_; intro wd hcf hof hzf; have HF := Lib.hid (And.intro hcf (And.intro hof hzf)); clear hcf hof hzf))
    have hsw : Still wc wd := ((Still.refl wc).alloc _).andThen HF.out.2.1 fun x hx e => by have e' : x = wc.heap.size := e; omega
    have HN := Lib.hid (HNX.out wd hsw)
    clear hsw HNX HCN
    go_roundw
    case rel => exact ⟨k + 1, by go_num, by have := HKK.out; omega, HN.out⟩
    case measure => simp [intOf]; have := HKK.out; omega
  rw [if_neg h3] at hp
  obtain ⟨v0, v1, v2, v3, rfl, hone⟩ := hp
  obtain ⟨zz, hzz⟩ : ∃ z, (takeT ta tb).2.lsn = z := ⟨_, rfl⟩
  rw [hzz]
  have hlsn : zz ≤ (en2 : Int) := by
   rcases HOKT.out with e | e
   · exact absurd e h3
   · have h1 := e.2.1
     rw [hzz] at h1
     have := HLE.out
     omega
  have q1 : decide ((en2 : Int) < zz) = false := decide_eq_false (by omega)
  have HONE := Lib.hid (show (#[v0, v1, v2, v3, .int .i64 zz] : Array Value).toList.all (·.oneCell') = true from by
   rw [List.all_eq_true]
   intro y hy
   simp only [List.mem_cons, List.not_mem_nil, or_false] at hy
   rcases hy with rfl | rfl | rfl | rfl | rfl
   · exact hone _ (by simp)
   · exact hone _ (by simp)
   · exact hone _ (by simp)
   · exact hone _ (by simp)
   · rfl)
  have HCN := Lib.hid (fun tt => cellsAt_new wc [.slice none 0 0, .slice none 0 0, .slice none 0 0, .slice none 0 0, .int .i64 0] tt)
  clear h3 hone hzz hlsn
  go_upto_region 33 with ((with_reducible (show wpList _ _ _ ({ dst := none, op := Op.store 36 _ _, type := _, pos := _, after := _, guard := _ } :: _) _ _)); (refine wpList_storeAgg rfl 36 _ _ rfl wc.heap.size #[v0, v1, v2, v3, .int .i64 zz] rfl rfl (HCN.out _) size_page rfl HONE.out ?_; intro wd hcf hof hzf; have HF := Lib.hid (And.intro hcf (And.intro hof hzf)); clear hcf hof hzf))
  have hsw : Still wc wd := ((Still.refl wc).alloc _).andThen HF.out.2.1 fun x hx e => by have e' : x = wc.heap.size := e; omega
  have HN := Lib.hid (HNX.out wd hsw)
  have a4 : wd.cell? ⟨wc.heap.size, 4, none⟩ = some (.int .i64 zz) := HF.out.1.cell 4
  clear hsw HNX HCN
  go_wp2_with fail
  go_roundw
  case rel => exact ⟨k + 1, by go_num, by have := HKK.out; omega, HN.out⟩
  case measure => simp [intOf]; have := HKK.out; omega
end Go.Proofs.YtlcfoeikamkpmaaGreat

namespace Go.Proofs.YtlcfoeikamkpmaaGreat
open Go.RowKit Go.Wh Go.ChangeShapes Go.WideShapes Go.Deep

theorem choose_rw {α : Type} {P : Nat → α → Prop} {m : Nat} (hm : 0 < m) (h : ∀ i, i < m → ∃ a, P i a) : ∃ A : Nat → α, ∀ i, i < m → P i (A i) := by
 obtain ⟨a0, -⟩ := h 0 hm
 have key : ∀ i, ∃ a, i < m → P i a := fun i => by
  by_cases hi : i < m
  · obtain ⟨a, ha⟩ := h i hi
    exact ⟨a, fun _ => ha⟩
  · exact ⟨a0, fun e => absurd e hi⟩
 exact ⟨fun i => (key i).choose, fun i hi => (key i).choose_spec hi⟩
section
variable {H : Type} {enc : TypeId × Value → H}
theorem open_sls {P : Program} {W : World} {t e : TypeId} {sz : Nat} {fuel : Nat} {cs : List Value} {x : DataW H × List MemPlace} (ht : P.underlying t = some (.slice e)) (hsz : P.cellsOf e = sz) (hs0 : 0 < sz) (h : DataW.trod enc P W 0 (fun _ => true) true fuel t cs = some x)
 {α : Type} (f : α → List Value) (hfl : ∀ a, (f a).length = sz) (R : α → Prop) (hf : ∀ n cs' y, cs'.length = sz → DataW.trod enc P W 0 (fun _ => true) true n e cs' = some y → ∃ a, cs' = f a ∧ R a) :
 ∃ (dv : Value) (m : Nat) (l : List α), cs = [dv] ∧ Sl W (fun g => g < W.heap.size) sz dv m (l.flatMap f) ∧ l.length = m ∧ (∀ a ∈ l, R a) ∧ Cap m dv := by
 rcases open_slice ht h with ⟨rfl, -⟩ | ⟨a, len, cap, m, n, D, Pl, rfl, -, hle, -, hm, -, hcell⟩
 · exact ⟨_, 0, [], rfl, Sl.nil, rfl, (fun a ha => by cases ha), ⟨_, _, rfl, Nat.le_refl _⟩⟩
 simp only [if_true] at hm
 subst hm
 rcases Nat.eq_zero_or_pos len with h0 | h0
 · subst h0
   exact ⟨_, 0, [], rfl, Sl.empty (fun e => by cases e), rfl, (fun a ha => by cases ha), ⟨_, _, rfl, Nat.zero_le _⟩⟩
 obtain ⟨b, off, spot⟩ := a
 have hspot : spot = none := by
  obtain ⟨cs0, hc0, _⟩ := hcell 0 (by omega)
  rw [hsz] at hc0
  obtain ⟨_, hlen0, hat0⟩ := World.cells?_some hc0
  have g := hat0 0 (by omega)
  rw [List.getElem?_eq_getElem (by omega)] at g
  have := World.cell?_spot g
  simpa [Addr.add] using this
 subst hspot
 have hadd : ∀ j, (⟨b, off, none⟩ : Addr).add j = ⟨b, off + j, none⟩ := fun j => by unfold Addr.add; split <;> simp_all
 have hel : ∀ i, i < len → ∃ a : α, (∀ r, r < sz → W.cell? ⟨b, off + i * sz + r, none⟩ = (f a)[r]?) ∧ R a := fun i hi => by
  obtain ⟨cs', hc, htr⟩ := hcell i (by omega)
  rw [hsz] at hc
  obtain ⟨_, hlen, hat⟩ := World.cells?_some hc
  obtain ⟨a, rfl, hr⟩ := hf n cs' _ hlen htr
  refine ⟨a, fun r hr => ?_, hr⟩
  have := hat r (by omega)
  rw [hadd] at this
  rw [← this]
  unfold Addr.add
  split <;> simp_all
 obtain ⟨A, hA⟩ := choose_rw h0 hel
 have hb : b < W.heap.size := by
  have h1 := (hA 0 h0).1 0 hs0
  rw [List.getElem?_eq_getElem (by rw [hfl]; exact hs0)] at h1
  exact lt_of_cell h1
 refine ⟨_, len, (List.range len).map A, rfl, ⟨by rw [flat_len hfl]; simp, .inr ⟨b, off, _, rfl, fun _ => ⟨hb, hb⟩, fun j u hj => ?_⟩⟩, by simp, fun a ha => ?_, ⟨_, _, rfl, hle⟩⟩
 · have hjl := (List.getElem?_eq_some_iff.1 hj).1
   rw [flat_len hfl] at hjl
   simp only [List.length_map, List.length_range] at hjl
   have hq : j / sz < len := Nat.div_lt_of_lt_mul (by rw [Nat.mul_comm]; exact hjl)
   have hr : j % sz < sz := Nat.mod_lt _ hs0
   have hjd : j / sz * sz + j % sz = j := by rw [Nat.mul_comm]; exact Nat.div_add_mod j sz
   have h1 := (hA (j / sz) hq).1 (j % sz) hr
   rw [Nat.add_assoc, hjd] at h1
   rw [h1, ← hj]
   have h2 := flat_get hfl ((List.range len).map A) (j / sz) (j % sz) (A (j / sz)) (by rw [List.getElem?_map, List.getElem?_range hq]; rfl) hr
   rw [hjd] at h2
   exact h2.symm
 · obtain ⟨i, hi, rfl⟩ := List.mem_map.1 ha
   exact (hA i (List.mem_range.1 hi)).2
variable {W : World} {fuel : Nat} {cs : List Value} {x : DataW H × List MemPlace}
theorem ks_int : Tryz.prog.cellsOf 3 = 1 := by kernel_rfl
theorem ks_u8 : Tryz.prog.cellsOf 5 = 1 := by kernel_rfl
theorem flat_bcs : ∀ l : List Int, l.flatMap (fun z => [Value.int .u8 z]) = bc l
 | [] => rfl
 | a :: l => by
  rw [List.flatMap_cons, flat_bcs l]
  rfl
set_option maxRecDepth 100000 in
theorem open_b8 {base : Nat} {v : Value} {d : DataW H} {p : List MemPlace} (hval : Value.okWide Tryz.prog W .any base 22 v) (h : DataW.Trod enc Tryz.prog W 0 (fun _ => true) true 22 v d p) :
 ∃ (a : Option Addr) (m c : Nat) (l : List Int), v = .slice a m c ∧ Sl W (fun g => g < W.heap.size) 1 v m (bc l) ∧ l.length = m ∧ Byt l := by
 obtain ⟨a0, len0, cap0, rfl⟩ := okWide_slice Tryz.underlying22 hval
 obtain ⟨fuel, hf⟩ := h
 obtain ⟨dv, m, l, h1, h2, h3, h4, h5⟩ := open_sls (α := Int) Tryz.underlying22 ks_u8 (by decide) hf (fun z => [.int .u8 z]) (fun _ => rfl) (fun z => 0 ≤ z ∧ z ≤ 255) (fun n cs' y _ ht => by
  obtain ⟨z, e, _, hw⟩ := DataW.trod_int Tryz.underlying5 ht
  have := byte_wf hw
  exact ⟨z, e, by omega, by omega⟩)
 rw [flat_bcs] at h2
 have h1' : Value.slice a0 len0 cap0 = dv := by
  have : [Value.slice a0 len0 cap0] = [dv] := h1
  exact (List.cons.inj this).1
 obtain ⟨a, c, e⟩ := h2.form
 rw [← h1'] at e h2
 have e2 : len0 = m := (Value.slice.inj e).2.1
 subst e2
 exact ⟨a0, _, cap0, l, rfl, h2, h3, h4⟩
end
end Go.Proofs.YtlcfoeikamkpmaaGreat

namespace Go.Proofs.YtlcfoeikamkpmaaGreat
open Go.RowKit Go.Wh Go.ChangeShapes Go.WideShapes Go.ChangeAt

theorem aheOwn : ownKnob Tryz.prog.godebug = none := by kernel_rfl
theorem aheLaid : laidOutB Tryz.prog = true := by kernel_rfl
theorem trodAll_three' {H : Type} {enc : TypeId × Value → H} {P : Program} {w : World} {base : Nat} {spare : Nat → Bool} {held : Bool} {t t' t2 : TypeId} {args : Array Value} {ds : List (DataW H)} {ps : List MemPlace} (h : DataW.TrodAll enc P w base spare held [t, t', t2] args.toList ds ps) :
 ∃ v v' v2 d d' d2 p p' p2, args = #[v, v', v2] ∧ ds = [d, d', d2] ∧ ps = p ++ (p' ++ p2) ∧ DataW.Trod enc P w base spare held t v d p ∧ DataW.Trod enc P w base spare held t' v' d' p' ∧ DataW.Trod enc P w base spare held t2 v2 d2 p2 := by
 obtain ⟨v, vs, d, ds', p, q, hargs, rfl, rfl, hd, hrest⟩ := trodAll_cons h
 obtain ⟨v', vs', d', ds'', p', q', rfl, rfl, rfl, hd', hrest'⟩ := trodAll_cons hrest
 obtain ⟨v2, vs2, d2, ds2, p2, q2, rfl, rfl, rfl, hd2, hrest2⟩ := trodAll_cons hrest'
 obtain ⟨rfl, rfl, rfl⟩ := trodAll_nil hrest2
 exact ⟨v, v', v2, d, d', d2, p, p', p2, by cases args; simp_all, rfl, by simp, hd, hd', hd2⟩
set_option maxRecDepth 100000 in
theorem poolAhead_lifted (os : Os) (started : os.Started) (H : Type) (enc : TypeId × Value → H) :
 ReturnsInHanded {} Tryz.checked os 8 .any (Rows.poolAheadSpec.pre6 enc Tryz.prog Tryz.f8 Rows.poolAheadRow.domain false) (Rows.poolAheadSpec.post enc Tryz.prog Tryz.f8 false true false false) := by
 refine returnsInHanded_of_change (C := Tryz.checked) aheOwn started (by kernel_rfl) Tryz.func8
  (ChangeSpec.witness6 (enc := enc) (C := Tryz.checked) false ⟨#[], #[.slice none 0 0, .int .u8 0, .slice none 0 0], []⟩ 8 (by kernel_rfl) (by kernel_rfl) (by kernel_rfl) (by kernel_rfl)) ?_
 intro W base args ds gs before hval0 hW hcnd _
 have hval : ∀ (j : Nat) t v, Tryz.f8.params[j]? = some t → args[j]? = some v → Value.okWide Tryz.prog W .any base t v := hval0
 have hW' := hW
 obtain ⟨p, q, hA0, hV, rfl, hfz, hnd⟩ := hW
 have hA : DataW.TrodAll enc Tryz.prog W 0 (fun _ => true) true Tryz.f8.params.toList args.toList ds p := hA0
 rw [Tryz.params8] at hA hval
 obtain ⟨v0, v1, v2, d0, d1, d2, p0, p1, p2, rfl, rfl, rfl, h0, h1, h2⟩ := trodAll_three' hA
 obtain ⟨a0, m0, c0, L, rfl, s0, l0, y0⟩ := open_b8 (hval 0 22 v0 rfl rfl) h0
 obtain ⟨n1, rfl, rfl, rfl, w1⟩ := open_int Tryz.underlying5 (hval 1 5 v1 rfl rfl) h1
 obtain ⟨a2, m2, c2, K, rfl, s2, l2, y2⟩ := open_b8 (hval 2 22 v2 rfl rfl) h2
 have walk : Calls Tryz.prog 8 #[.slice a0 m0 c0, .int .u8 n1, .slice a2 m2 c2] W (BTrue W) := by
  exact ahead_walk W a0 m0 c0 L n1 a2 m2 c2 K ⟨s0, l0, y0⟩ (byte_wf w1).1 ⟨s2, l2, y2⟩
 refine walk.mono fun e W' ⟨he, bel⟩ => ?_
 subst he
 exact ⟨_, rfl, law_post aheLaid (t := 4) rfl Tryz.underlying4 rfl (by intro t ht; rw [show Tryz.f8.params.toList = [22, 5, 22] from rfl] at ht; simp at ht; rcases ht with rfl | rfl | rfl; all_goals exact ⟨by kernel_rfl, of_decide_eq_true (by kernel_rfl)⟩) hW' rfl (Only.below bel (Nat.le_refl _) fun _ _ e => e)⟩

theorem poolAhead_holds : Rows.PoolAheadSaid :=
 OpenClaim.holds_of_wide 8 Tryz.f8 rfl rfl rfl rfl rfl rfl rfl ⟨rfl, rfl, rfl, rfl, rfl⟩ rfl rfl rfl rfl rfl (by kernel_rfl) Tryz.func8 (by kernel_rfl)
  (of_decide_eq_true (by kernel_rfl)) (by unfold Func.isWrapper; first | (rw [if_pos (by decide +kernel)]; kernel_rfl) | (rw [if_neg (by decide +kernel)]; exact ⟨rfl, rfl⟩))
  (fun os started H enc _ => poolAhead_lifted os started H enc)
#print axioms poolAhead_holds
end Go.Proofs.YtlcfoeikamkpmaaGreat
