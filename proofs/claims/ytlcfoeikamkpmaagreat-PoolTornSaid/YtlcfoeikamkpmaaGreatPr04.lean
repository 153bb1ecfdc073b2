/- A trail: its tiles say what they should (clean). Conditions: it and the disk lie in memory, apart; its tiles are the disk's, bytes. Entries: as bytes, and read again; frames; which frames some bytes begin with: plain. No program. No conditions. The writer of bytes: numbers. Conditions: it lies in memory; numbers from 0 on. The writer of bytes: images, lists of moves. Conditions: all lies in memory, apart from the writer; what is written may be. The writer of bytes: lists. Conditions: all lies in memory, apart from the writer; what is written may be. -/
import Derived.Test.YtlcfoeikamkpmaaGreatPr03
namespace Go.Proofs.YtlcfoeikamkpmaaGreat
open Go.RowKit Go.Wh Go.Maps

def layB (T : List (List Int)) (a : Nat) (S : List Int) : Nat → List (List Int)
 | 0 => T
 | i + 1 => (layB T a S i).set (a + i) (tileB S i)
section
variable {T : List (List Int)} {a i j : Nat} {S : List Int}
theorem layB_length : (layB T a S i).length = T.length := by
 induction i with
 | zero => rfl
 | succ i ih => simp [layB, ih]
theorem tileB_byt (h : Byt S) : Byt (tileB S i) := by
 have hp := partB_length S i
 intro z hz
 unfold tileB at hz
 rcases List.mem_cons.1 hz with rfl | hz
 · omega
 · exact ((h.drop _).take _).append (Byt.zeros _) z hz
theorem layB_other (h : j < a ∨ a + i ≤ j) : (layB T a S i)[j]? = T[j]? := by
 induction i with
 | zero => rfl
 | succ i ih =>
  unfold layB
  rw [List.getElem?_set_ne (by omega)]
  exact ih (by omega)
theorem layB_get (hl : a + i ≤ T.length) (h : j < i) : (layB T a S i)[a + j]? = some (tileB S j) := by
 induction i with
 | zero => omega
 | succ i ih =>
  unfold layB
  by_cases e : j = i
  · subst e
    rw [List.getElem?_set_self (by rw [layB_length]; omega)]
  · rw [List.getElem?_set_ne (by omega)]
    exact ih (by omega) (by omega)
end

def SepT (t : Nat) (sv : Value) (mb : Nat) (tv : Value) : Prop := t ≠ mb ∧ tv.ownBlock ≠ some t ∧ ∀ g, sv.ownBlock = some g → g ≠ mb ∧ tv.ownBlock ≠ some g
theorem TlAt.turned {w w' : World} {t d at_ n c st mb : Nat} {S : List Int} {sv tv : Value} (h : TlAt w t d at_ n S sv c st) (hs : SepT t sv mb tv) (ho : Only (fun b => b = mb ∨ tv.ownBlock = some b) w w') : TlAt w' t d at_ n S sv c st :=
 h.only ho (fun e => e.elim hs.1 hs.2.1) fun g hg e => e.elim (hs.2.2 g hg).1 (hs.2.2 g hg).2

def ClRel (w : World) (d : Nat) (T : List (List Int)) (tv : Value) (mb : Nat) (vs : List Value) (w' : World) : Prop := ∃ vs', DkAt w' d T tv mb vs' ∧ Only (fun b => b = mb ∨ tv.ownBlock = some b) w w' ∧ ∀ u ∈ vs', u ∈ vs ∨ ∀ g, u.ownBlock = some g → w.heap.size ≤ g
theorem ClRel.post {w w' : World} {d mb : Nat} {T : List (List Int)} {tv : Value} {vs : List Value} (h : ClRel w d T tv mb vs w') : WrPost w d T tv mb vs (.returned (.int .i64 0)) w' := ⟨rfl, h⟩
theorem ClRel.still {w w' w'' : World} {d mb : Nat} {T : List (List Int)} {tv : Value} {vs : List Value} (h : ClRel w d T tv mb vs w') (hs : Still w' w'') : ClRel w d T tv mb vs w'' := by
 obtain ⟨vs', h1, h2, h3⟩ := h
 exact ⟨vs', h1.still hs, h2.trans (hs.mono fun _ e => e.elim), h3⟩
theorem ClRel.write {w w1 w2 : World} {d mb : Nat} {T' : List (List Int)} {tv : Value} {vs vs1 : List Value} {e : Ending} (ho : Only (fun b => b = mb ∨ tv.ownBlock = some b) w w1) (hv : ∀ u ∈ vs1, u ∈ vs ∨ ∀ g, u.ownBlock = some g → w.heap.size ≤ g) (h : WrPost w1 d T' tv mb vs1 e w2) : ClRel w d T' tv mb vs w2 := by
 obtain ⟨-, vs', h1, h2, h3⟩ := h
 refine ⟨vs', h1, ho.trans h2, fun u hu => ?_⟩
 rcases h3 u hu with h | h
 · exact hv u h
 · exact .inr fun g hg => Nat.le_trans ho.size (h g hg)
theorem ClRel.sync {w w1 w2 : World} {d mb : Nat} {T : List (List Int)} {tv : Value} {vs vs1 : List Value} {e : Ending} (ho : Only (fun b => b = mb ∨ tv.ownBlock = some b) w w1) (hv : ∀ u ∈ vs1, u ∈ vs ∨ ∀ g, u.ownBlock = some g → w.heap.size ≤ g) (h : SyPost w1 d T tv mb vs1 e w2) : ClRel w d T tv mb vs w2 := by
 obtain ⟨-, h1, h2⟩ := h
 exact ⟨vs1, h1, ho.trans (h2.mono fun _ e => .inl e), hv⟩

end Go.Proofs.YtlcfoeikamkpmaaGreat

namespace Go.Proofs.YtlcfoeikamkpmaaGreat

structure PMv where
 fp : Int
 fc : Int
 tp : Int
 tc : Int
structure PLv where
 txn : Int
 last : Int
 next : Int
 commit : Bool
structure PDt where
 page : Int
 rc : Int
structure POp where
 unit : Int
 moves : List PMv
 done : Int
structure PE where
 kind : Int
 txn : Int
 unit : Int
 half : Int
 prev : Int
 next : Int
 ap : Int
 ac : Int
 tp : Int
 tc : Int
 old : List Int
 new : List Int
 moves : List PMv
 lives : List PLv
 dirty : List PDt
 opens : List POp

def fitsB (n : Nat) (l : List Int) : Bool := l.all fun v => decide (0 ≤ v) && decide (v < 256 ^ n)
def imgB (b : List Int) : Bool := decide (b.length = 0) || decide (b.length = 26)
def eachB {α : Type} (p : α → Bool) (l : List α) : Bool := decide (l.length ≤ 40) && l.all p
def mvMay (m : PMv) : Bool := fitsB 1 [m.fp, m.fc] && fitsB 1 [m.tp, m.tc]
def lvMay (x : PLv) : Bool := fitsB 1 [x.txn] && fitsB 3 [x.last, x.next]
def dtMay (x : PDt) : Bool := fitsB 1 [x.page] && fitsB 3 [x.rc]
def opMay (x : POp) : Bool := fitsB 2 [x.unit] && fitsB 1 [x.done] && eachB mvMay x.moves
def PE.may (e : PE) : Bool := decide (1 ≤ e.kind) && decide (e.kind ≤ 10) && fitsB 1 [e.txn, e.half] && fitsB 2 [e.unit] && fitsB 3 [e.prev, e.next] && fitsB 1 [e.ap, e.ac] && fitsB 1 [e.tp, e.tc] && imgB e.old && imgB e.new && eachB mvMay e.moves && eachB lvMay e.lives && eachB dtMay e.dirty && eachB opMay e.opens

def listB {α : Type} (f : α → List Int) (l : List α) : List Int := numsB 1 [(l.length : Int)] ++ l.flatMap f
def mvB (m : PMv) : List Int := numsB 1 [m.fp, m.fc] ++ numsB 1 [m.tp, m.tc]
def bitB (b : Bool) : Int := if b then 1 else 0
def lvB (x : PLv) : List Int := numsB 1 [x.txn] ++ numsB 3 [x.last, x.next] ++ numsB 1 [bitB x.commit]
def dtB (x : PDt) : List Int := numsB 1 [x.page] ++ numsB 3 [x.rc]
def opB (x : POp) : List Int := numsB 2 [x.unit] ++ numsB 1 [x.done] ++ listB mvB x.moves
def imB (b : List Int) : List Int := numsB 1 [(b.length : Int)] ++ b
def encB (e : PE) : List Int := numsB 1 [e.kind, e.txn] ++ numsB 2 [e.unit] ++ numsB 1 [e.half] ++ numsB 3 [e.prev, e.next] ++ numsB 1 [e.ap, e.ac] ++ numsB 1 [e.tp, e.tc] ++ imB e.old ++ imB e.new ++ listB mvB e.moves ++ listB lvB e.lives ++ listB dtB e.dirty ++ listB opB e.opens

abbrev RS := List Int × Bool
def tkS (n : Nat) (s : RS) : List Int × RS := if s.1.length < n then (List.replicate n 0, ([], true)) else (s.1.take n, (s.1.drop n, s.2))
def numS (n : Nat) (s : RS) : Int × RS := (decB (tkS n s).1, (tkS n s).2)
def loopS {α : Type} (f : RS → α × RS) : Nat → RS → List α × RS
 | 0, s => ([], s)
 | k + 1, s => if s.2 then ([], s) else ((f s).1 :: (loopS f k (f s).2).1, (loopS f k (f s).2).2)
def readsS {α : Type} (f : RS → α × RS) (s : RS) : List α × RS := loopS f (numS 1 s).1.toNat (numS 1 s).2
def mvS (s : RS) : PMv × RS :=
 let a := numS 1 s
 let b := numS 1 a.2
 let c := numS 1 b.2
 let d := numS 1 c.2
 (⟨a.1, b.1, c.1, d.1⟩, d.2)
def lvS (s : RS) : PLv × RS :=
 let a := numS 1 s
 let b := numS 3 a.2
 let c := numS 3 b.2
 let d := numS 1 c.2
 (⟨a.1, b.1, c.1, d.1 == 1⟩, d.2)
def dtS (s : RS) : PDt × RS :=
 let a := numS 1 s
 let b := numS 3 a.2
 (⟨a.1, b.1⟩, b.2)
def opS (s : RS) : POp × RS :=
 let a := numS 2 s
 let b := numS 1 a.2
 let c := readsS mvS b.2
 (⟨a.1, c.1, b.1⟩, c.2)
def imS (s : RS) : List Int × RS := tkS (numS 1 s).1.toNat (numS 1 s).2
def decS (s0 : RS) : PE × RS :=
 let s1 := numS 1 s0
 let s2 := numS 1 s1.2
 let s3 := numS 2 s2.2
 let s4 := numS 1 s3.2
 let s5 := numS 3 s4.2
 let s6 := numS 3 s5.2
 let s7 := numS 1 s6.2
 let s8 := numS 1 s7.2
 let s9 := numS 1 s8.2
 let s10 := numS 1 s9.2
 let s11 := imS s10.2
 let s12 := imS s11.2
 let s13 := readsS mvS s12.2
 let s14 := readsS lvS s13.2
 let s15 := readsS dtS s14.2
 let s16 := readsS opS s15.2
 (⟨s1.1, s2.1, s3.1, s4.1, s5.1, s6.1, s7.1, s8.1, s9.1, s10.1, s11.1, s12.1, s13.1, s14.1, s15.1, s16.1⟩, s16.2)
def takeE (b : List Int) : Option PE := if (decS (b, false)).2.2 = false ∧ (decS (b, false)).1.may = true ∧ encB (decS (b, false)).1 = b then some (decS (b, false)).1 else none

section
variable {r : List Int} {n : Nat} {v : Int}
theorem decB_numB : ∀ (n : Nat) (v : Int), 0 ≤ v → v < 256 ^ n → decB (numB n v) = v := by
 have key : ∀ (n : Nat) (v u : Int), 0 ≤ v → v < 256 ^ n → (numB n v).foldl (fun v x => v * 256 + x) u = u * 256 ^ n + v := by
  intro n
  induction n with
  | zero =>
   intro v u h0 h1
   have : (256 : Int) ^ 0 = 1 := rfl
   rw [this] at h1
   show u = u * 256 ^ 0 + v
   rw [this]
   omega
  | succ n ih =>
   intro v u h0 h1
   have hp : (256 : Int) ^ (n + 1) = 256 ^ n * 256 := Int.pow_succ ..
   have hpos : (0 : Int) < 256 ^ n := Int.pow_pos (by decide)
   have hrec : numB n v = numB n (v % 256 ^ n) := by
    have : ∀ m, m ≤ n → numB m v = numB m (v % 256 ^ n) := by
     intro m
     induction m with
     | zero => intro _; rfl
     | succ m ihm =>
      intro hm
      show v / 256 ^ m % 256 :: numB m v = v % 256 ^ n / 256 ^ m % 256 :: numB m (v % 256 ^ n)
      rw [ihm (by omega)]
      congr 1
      obtain ⟨k, rfl⟩ : ∃ k, n = m + 1 + k := ⟨n - (m + 1), by omega⟩
      have hd : (256 : Int) ^ (m + 1 + k) = 256 ^ m * (256 * 256 ^ k) := by
       rw [Int.pow_add, Int.pow_succ, Int.mul_assoc]
      have hm0 : (0 : Int) < 256 ^ m := Int.pow_pos (by decide)
      have h2 := Int.mul_ediv_add_emod v (256 ^ (m + 1 + k))
      generalize v / 256 ^ (m + 1 + k) = q at h2
      generalize v % 256 ^ (m + 1 + k) = t at h2 ⊢
      rw [← h2, hd, Int.mul_assoc, Int.add_comm, Int.add_mul_ediv_left _ _ (by omega), Int.mul_assoc 256, Int.add_mul_emod_self_left]
    exact this n (Nat.le_refl _)
   show (numB n v).foldl _ (u * 256 + v / 256 ^ n % 256) = _
   have hq : v / 256 ^ n % 256 = v / 256 ^ n := by
    have h2 : v / 256 ^ n < 256 := Int.ediv_lt_of_lt_mul hpos (by rw [hp] at h1; rw [Int.mul_comm]; exact h1)
    have h3 : 0 ≤ v / 256 ^ n := Int.ediv_nonneg h0 (by omega)
    omega
   rw [hrec, ih _ _ (Int.emod_nonneg _ (by omega)) (Int.emod_lt_of_pos _ hpos), hq, hp]
   have h2 := Int.mul_ediv_add_emod v (256 ^ n)
   rw [Int.add_mul, Int.mul_assoc, Int.mul_comm 256 (256 ^ n)]
   have h3 : v / 256 ^ n * 256 ^ n = 256 ^ n * (v / 256 ^ n) := Int.mul_comm ..
   omega
 intro n v h0 h1
 have := key n v 0 h0 h1
 rw [Int.zero_mul, Int.zero_add] at this
 exact this
theorem tkS_app {a : List Int} (b : Bool) (h : a.length = n) : tkS n (a ++ r, b) = (a, (r, b)) := by
 unfold tkS
 rw [if_neg (by simp only [List.length_append]; omega)]
 simp only
 rw [List.take_left' h, List.drop_left' h]
theorem numS_enc (b : Bool) (h0 : 0 ≤ v) (h1 : v < 256 ^ n) : numS n (numB n v ++ r, b) = (v, (r, b)) := by
 unfold numS
 rw [tkS_app b (numB_length n v), decB_numB n v h0 h1]
theorem fitsB_cons {l : List Int} : fitsB n (v :: l) = true ↔ (0 ≤ v ∧ v < 256 ^ n) ∧ fitsB n l = true := by
 unfold fitsB
 simp only [List.all_cons, Bool.and_eq_true, decide_eq_true_eq]
theorem numsB_cons {l : List Int} : numsB n (v :: l) = numB n v ++ numsB n l := rfl
theorem numsB_nil : numsB n [] = [] := rfl
theorem numsS {l : List Int} (h : fitsB n (v :: l) = true) : numS n (numsB n (v :: l) ++ r, false) = (v, (numsB n l ++ r, false)) := by
 rw [fitsB_cons] at h
 rw [numsB_cons, List.append_assoc]
 exact numS_enc false h.1.1 h.1.2
theorem fits_len {m : Nat} (h : m ≤ 255) : fitsB 1 [(m : Int)] = true := by
 rw [fitsB_cons]
 refine ⟨⟨by omega, ?_⟩, rfl⟩
 have : (256 : Int) ^ 1 = 256 := rfl
 omega
theorem loopS_enc {α : Type} {f : α → List Int} {p : α → Bool} {g : RS → α × RS} (hg : ∀ x r, p x = true → g (f x ++ r, false) = (x, (r, false))) : ∀ (l : List α) (r : List Int), l.all p = true → loopS g l.length (l.flatMap f ++ r, false) = (l, (r, false))
 | [], r, _ => rfl
 | x :: l, r, h => by
  rw [List.all_cons, Bool.and_eq_true] at h
  show (if false = true then _ else _) = _
  rw [if_neg (by decide), List.flatMap_cons, List.append_assoc, hg x _ h.1]
  simp only
  rw [loopS_enc hg l r h.2]
theorem readsS_enc {α : Type} {f : α → List Int} {p : α → Bool} {g : RS → α × RS} (hg : ∀ x r, p x = true → g (f x ++ r, false) = (x, (r, false))) (l : List α) (h : eachB p l = true) : readsS g (listB f l ++ r, false) = (l, (r, false)) := by
 unfold eachB at h
 simp only [Bool.and_eq_true, decide_eq_true_eq] at h
 unfold readsS listB
 rw [List.append_assoc, numsS (fits_len (by omega))]
 simp only [numsB_nil, List.nil_append, Int.toNat_natCast]
 exact loopS_enc hg l r h.2
theorem mvS_enc (m : PMv) (r : List Int) (h : mvMay m = true) : mvS (mvB m ++ r, false) = (m, (r, false)) := by
 unfold mvMay at h
 simp only [Bool.and_eq_true] at h
 have h1 := (fitsB_cons.1 h.1).2
 have h2 := (fitsB_cons.1 h.2).2
 unfold mvS mvB
 simp only [List.append_assoc, numsS h.1, numsS h.2, numsS h1, numsS h2, numsB_nil, List.nil_append]
theorem lvS_enc (x : PLv) (r : List Int) (h : lvMay x = true) : lvS (lvB x ++ r, false) = (x, (r, false)) := by
 unfold lvMay at h
 simp only [Bool.and_eq_true] at h
 have h2 := (fitsB_cons.1 h.2).2
 have h3 : fitsB 1 [bitB x.commit] = true := by cases x.commit <;> rfl
 unfold lvS lvB
 simp only [List.append_assoc, numsS h.1, numsS h.2, numsS h2, numsS h3, numsB_nil, List.nil_append]
 cases x with
 | mk a b c d => cases d <;> rfl
theorem dtS_enc (x : PDt) (r : List Int) (h : dtMay x = true) : dtS (dtB x ++ r, false) = (x, (r, false)) := by
 unfold dtMay at h
 simp only [Bool.and_eq_true] at h
 unfold dtS dtB
 simp only [List.append_assoc, numsS h.1, numsS h.2, numsB_nil, List.nil_append]
theorem opS_enc (x : POp) (r : List Int) (h : opMay x = true) : opS (opB x ++ r, false) = (x, (r, false)) := by
 unfold opMay at h
 simp only [Bool.and_eq_true] at h
 unfold opS opB
 simp only [List.append_assoc, numsS h.1.1, numsS h.1.2, numsB_nil, List.nil_append, readsS_enc mvS_enc x.moves h.2]
theorem imS_enc (b : List Int) (h : imgB b = true) : imS (imB b ++ r, false) = (b, (r, false)) := by
 unfold imgB at h
 simp only [Bool.or_eq_true, decide_eq_true_eq] at h
 unfold imS imB
 rw [List.append_assoc, numsS (fits_len (by omega))]
 simp only [numsB_nil, List.nil_append, Int.toNat_natCast]
 exact tkS_app false rfl
theorem decS_enc (e : PE) (h : e.may = true) (r : List Int) : decS (encB e ++ r, false) = (e, (r, false)) := by
 unfold PE.may at h
 simp only [Bool.and_eq_true] at h
 obtain ⟨⟨⟨⟨⟨⟨⟨⟨⟨⟨⟨⟨h1, h2⟩, h3⟩, h4⟩, h5⟩, h6⟩, h7⟩, h8⟩, h9⟩, h10⟩, h11⟩, h12⟩, h13⟩ := h
 have k1 : fitsB 1 [e.kind, e.txn] = true := by
  rw [fitsB_cons] at h3 ⊢
  refine ⟨⟨?_, ?_⟩, ?_⟩
  · have := of_decide_eq_true h1
    omega
  · have := of_decide_eq_true h2
    have h : (256 : Int) ^ 1 = 256 := rfl
    omega
  · rw [fitsB_cons]
    exact ⟨h3.1, rfl⟩
 have k2 := (fitsB_cons.1 k1).2
 have k3 := (fitsB_cons.1 h3).2
 have k5 := (fitsB_cons.1 h5).2
 have k6 := (fitsB_cons.1 h6).2
 have k7 := (fitsB_cons.1 h7).2
 unfold decS encB
 simp only [List.append_assoc, numsS k1, numsS k2, numsS h4, numsS k3, numsS h5, numsS k5, numsS h6, numsS k6, numsS h7, numsS k7, numsB_nil, List.nil_append, imS_enc e.old h8, imS_enc e.new h9, readsS_enc mvS_enc e.moves h10, readsS_enc lvS_enc e.lives h11, readsS_enc dtS_enc e.dirty h12]
 rw [readsS_enc opS_enc e.opens h13]
theorem takeE_enc (e : PE) (h : e.may = true) : takeE (encB e) = some e := by
 have := decS_enc e h []
 rw [List.append_nil] at this
 unfold takeE
 rw [this, if_pos ⟨rfl, h, rfl⟩]
theorem takeE_iff (b : List Int) (e : PE) : takeE b = some e ↔ e.may = true ∧ b = encB e := by
 constructor
 · intro h
   unfold takeE at h
   split at h
   · rename_i hc
     cases h
     exact ⟨hc.2.1, hc.2.2.symm⟩
   · cases h
 · rintro ⟨h, rfl⟩
   exact takeE_enc e h
end

theorem encB_short (e : PE) (h1 : e.moves = []) (h2 : e.lives = []) (h3 : e.dirty = []) (h4 : e.opens = []) : (encB e).length = 21 + e.old.length + e.new.length := by
 unfold encB listB imB
 rw [h1, h2, h3, h4]
 simp only [List.length_append, numsB_length, List.length_cons, List.length_nil, List.flatMap_nil]
 omega
theorem flat_le {α : Type} (f : α → List Int) (k : Nat) : ∀ (l : List α), (∀ x ∈ l, (f x).length ≤ k) → (l.flatMap f).length ≤ l.length * k
 | [], _ => by simp
 | x :: l, h => by
  have h1 := h x (by simp)
  have h2 := flat_le f k l fun y hy => h y (by simp [hy])
  rw [List.flatMap_cons, List.length_append, List.length_cons, Nat.add_mul]
  omega
theorem eachB_len {α : Type} {p : α → Bool} {l : List α} (h : eachB p l = true) : l.length ≤ 40 ∧ ∀ x ∈ l, p x = true := by
 unfold eachB at h
 simp only [Bool.and_eq_true, decide_eq_true_eq, List.all_eq_true] at h
 exact h
theorem listB_le {α : Type} {p : α → Bool} (f : α → List Int) (k : Nat) (l : List α) (h : eachB p l = true) (hf : ∀ x, p x = true → (f x).length ≤ k) : (listB f l).length ≤ 1 + 40 * k := by
 obtain ⟨h1, h2⟩ := eachB_len h
 have h3 := flat_le f k l fun x hx => hf x (h2 x hx)
 have h4 := Nat.mul_le_mul_right k h1
 unfold listB
 simp only [List.length_append, numsB_length, List.length_cons, List.length_nil]
 omega
theorem encB_le (e : PE) (h : e.may = true) : 1 ≤ (encB e).length ∧ (encB e).length ≤ 8000 := by
 unfold PE.may at h
 simp only [Bool.and_eq_true] at h
 obtain ⟨⟨⟨⟨⟨⟨⟨⟨⟨⟨⟨⟨h1, h2⟩, h3⟩, h4⟩, h5⟩, h6⟩, h7⟩, h8⟩, h9⟩, h10⟩, h11⟩, h12⟩, h13⟩ := h
 have m4 : ∀ x, mvMay x = true → (mvB x).length ≤ 4 := fun x _ => by simp [mvB, numsB_length]
 have a1 := listB_le mvB 4 e.moves h10 m4
 have a2 := listB_le lvB 8 e.lives h11 fun x _ => by simp [lvB, numsB_length]
 have a3 := listB_le dtB 4 e.dirty h12 fun x _ => by simp [dtB, numsB_length]
 have a4 := listB_le opB 164 e.opens h13 fun x hx => by
  unfold opMay at hx
  simp only [Bool.and_eq_true] at hx
  have := listB_le mvB 4 x.moves hx.2 m4
  simp only [opB, List.length_append, numsB_length, List.length_cons, List.length_nil]
  omega
 unfold imgB at h8 h9
 simp only [Bool.or_eq_true, decide_eq_true_eq] at h8 h9
 unfold encB imB
 simp only [List.length_append, numsB_length, List.length_cons, List.length_nil]
 omega
theorem flat_byt {α : Type} {f : α → List Int} {l : List α} (h : ∀ x ∈ l, Byt (f x)) : Byt (l.flatMap f) := fun z hz => by
 obtain ⟨x, hx, hz⟩ := List.mem_flatMap.1 hz
 exact h x hx z hz
theorem listB_byt {α : Type} {f : α → List Int} (l : List α) (h : ∀ x, Byt (f x)) : Byt (listB f l) := (numsB_byt _ _).append (flat_byt fun x _ => h x)
theorem mvB_byt (m : PMv) : Byt (mvB m) := (numsB_byt _ _).append (numsB_byt _ _)
theorem encB_byt (e : PE) (h1 : Byt e.old) (h2 : Byt e.new) : Byt (encB e) := by
 unfold encB imB
 repeat' (first | (with_reducible exact numsB_byt _ _) | assumption | with_reducible apply Byt.append)
 · exact listB_byt _ mvB_byt
 · exact listB_byt _ fun x => ((numsB_byt _ _).append (numsB_byt _ _)).append (numsB_byt _ _)
 · exact listB_byt _ fun x => (numsB_byt _ _).append (numsB_byt _ _)
 · exact listB_byt _ fun x => ((numsB_byt _ _).append (numsB_byt _ _)).append (listB_byt _ mvB_byt)

def frameB (e : PE) : List Int := numsB 2 [((encB e).length : Int)] ++ encB e ++ chkB (encB e)
theorem frameB_length (e : PE) : (frameB e).length = 4 + (encB e).length := by
 unfold frameB chkB
 simp only [List.length_append, numsB_length, List.length_cons, List.length_nil]
 omega
theorem chkB_byt (b : List Int) : Byt (chkB b) := fun z hz => by
 have h := sumB_range b (0, 0) (by decide) (by decide)
 unfold chkB at hz
 simp only [List.mem_cons, List.not_mem_nil, or_false] at hz
 rcases hz with rfl | rfl <;> omega
theorem frameB_byt (e : PE) (h1 : Byt e.old) (h2 : Byt e.new) : Byt (frameB e) := ((numsB_byt _ _).append (encB_byt e h1 h2)).append (chkB_byt _)

def firstB (b : List Int) : Option (PE × Nat) :=
 match b with
 | x :: y :: t =>
  let n := (x * 256 + y).toNat
  if t.length < n + 2 then none else if (t.drop n).take 2 = chkB (t.take n) then (takeE (t.take n)).map fun e => (e, n + 4) else none
 | _ => none
theorem firstB_cons (x y : Int) (t : List Int) : firstB (x :: y :: t) = if t.length < (x * 256 + y).toNat + 2 then none else if (t.drop (x * 256 + y).toNat).take 2 = chkB (t.take (x * 256 + y).toNat) then (takeE (t.take (x * 256 + y).toNat)).map fun e => (e, (x * 256 + y).toNat + 4) else none := rfl
theorem firstB_pos {b : List Int} {e : PE} {n : Nat} (h : firstB b = some (e, n)) : 4 ≤ n ∧ n ≤ b.length ∧ e.may = true := by
 unfold firstB at h
 split at h
 · rename_i x y t
   simp only at h
   split at h
   · cases h
   · split at h
     · rename_i h1 h2
       rw [Option.map_eq_some_iff] at h
       obtain ⟨e', he, hq⟩ := h
       cases hq
       exact ⟨by omega, by simp only [List.length_cons]; omega, ((takeE_iff _ _).1 he).1⟩
     · cases h
 · cases h
theorem numsB2 (v : Int) : numsB 2 [v] = [v / 256 % 256, v % 256] := by
 show [v / 256 ^ 1 % 256, v / 256 ^ 0 % 256] = _
 have e1 : (256 : Int) ^ 1 = 256 := rfl
 have e0 : (256 : Int) ^ 0 = 1 := rfl
 rw [e1, e0, Int.ediv_one]
theorem firstB_frame (e : PE) (h : e.may = true) (r : List Int) : firstB (frameB e ++ r) = some (e, (frameB e).length) := by
 have hl := encB_le e h
 have h2 : numsB 2 [((encB e).length : Int)] = [((encB e).length : Int) / 256, ((encB e).length : Int) % 256] := by
  rw [numsB2]
  have : ((encB e).length : Int) / 256 % 256 = ((encB e).length : Int) / 256 := by omega
  rw [this]
 rw [frameB_length]
 have hn : (((encB e).length : Int) / 256 * 256 + ((encB e).length : Int) % 256).toNat = (encB e).length := by omega
 unfold frameB
 rw [h2]
 have e1 : [((encB e).length : Int) / 256, ((encB e).length : Int) % 256] ++ encB e ++ chkB (encB e) ++ r = ((encB e).length : Int) / 256 :: ((encB e).length : Int) % 256 :: (encB e ++ (chkB (encB e) ++ r)) := by
  simp only [List.append_assoc, List.cons_append, List.nil_append]
 rw [e1, firstB_cons, hn]
 have hc : (chkB (encB e)).length = 2 := rfl
 rw [if_neg (by rw [List.length_append, List.length_append, hc]; omega), List.drop_left' rfl, List.take_left' rfl, List.take_left' hc, if_pos rfl, takeE_enc e h, Option.map_some, Nat.add_comm]
theorem firstB_cut (e : PE) (h : e.may = true) {k : Nat} (hk : k < (frameB e).length) : firstB ((frameB e).take k) = none := by
 cases hq : firstB ((frameB e).take k) with
 | none => rfl
 | some p =>
  obtain ⟨e', n⟩ := p
  exfalso
  have hp := firstB_pos hq
  have hlen := frameB_length e
  have hl := encB_le e h
  rw [List.length_take] at hp
  match hb : (frameB e).take k with
  | [] => rw [hb] at hq; cases hq
  | [_] => rw [hb] at hq; cases hq
  | x :: y :: t =>
   have hkl : ((frameB e).take k).length = k := by rw [List.length_take]; omega
   have hx : (frameB e)[0]? = some x ∧ (frameB e)[1]? = some y := by
    have h0 : ((frameB e).take k)[0]? = some x := by rw [hb]; rfl
    have h1 : ((frameB e).take k)[1]? = some y := by rw [hb]; rfl
    rw [hb] at hkl
    simp only [List.length_cons] at hkl
    rw [List.getElem?_take, if_pos (by omega)] at h0 h1
    exact ⟨h0, h1⟩
   have h0 : (frameB e)[0]? = some (((encB e).length : Int) / 256 ^ 1 % 256) := rfl
   have h1 : (frameB e)[1]? = some (((encB e).length : Int) / 256 ^ 0 % 256) := rfl
   rw [h0, h1] at hx
   have e1 : (256 : Int) ^ 1 = 256 := rfl
   have e0 : (256 : Int) ^ 0 = 1 := rfl
   rw [e1, e0] at hx
   have hx1 := Option.some.inj hx.1
   have hx2 := Option.some.inj hx.2
   have hn : (x * 256 + y).toNat = (encB e).length := by omega
   rw [hb] at hq hkl
   simp only [List.length_cons] at hkl
   unfold firstB at hq
   simp only [hn] at hq
   rw [if_pos (by omega)] at hq
   cases hq

def scanB : Nat → List Int → List PE × Nat
 | 0, _ => ([], 0)
 | k + 1, b => match firstB b with
  | none => ([], 0)
  | some (e, n) => (e :: (scanB k (b.drop n)).1, n + (scanB k (b.drop n)).2)
theorem scanB_more : ∀ (k : Nat) (b : List Int), b.length < k → scanB (k + 1) b = scanB k b
 | 0, b, h => by omega
 | k + 1, b, h => by
  unfold scanB
  cases hf : firstB b with
  | none => rfl
  | some p =>
   obtain ⟨e, n⟩ := p
   have := firstB_pos hf
   simp only
   rw [scanB_more k (b.drop n) (by rw [List.length_drop]; omega)]
def streamB (l : List PE) : List Int := l.flatMap frameB
theorem streamB_append (a b : List PE) : streamB (a ++ b) = streamB a ++ streamB b := List.flatMap_append ..
theorem streamB_one (e : PE) : streamB [e] = frameB e := by simp [streamB]
theorem streamB_byt {l : List PE} (h : ∀ e ∈ l, Byt e.old ∧ Byt e.new) : Byt (streamB l) := flat_byt fun e he => frameB_byt e (h e he).1 (h e he).2
theorem scanB_stream {r : List Int} (hr : firstB r = none) : ∀ (l : List PE) (k : Nat), (∀ e ∈ l, e.may = true) → l.length < k → scanB k (streamB l ++ r) = (l, (streamB l).length)
 | [], k + 1, _, _ => by
  show scanB (k + 1) r = _
  unfold scanB
  rw [hr]
  rfl
 | e :: l, k + 1, h, hk => by
  have he : streamB (e :: l) = frameB e ++ streamB l := rfl
  unfold scanB
  rw [he, List.append_assoc, firstB_frame e (h e (by simp))]
  simp only
  rw [List.drop_left' rfl, scanB_stream hr l k (fun x hx => h x (by simp [hx])) (by simp at hk; omega), List.length_append]
theorem streamB_len (l : List PE) : l.length ≤ (streamB l).length := by
 induction l with
 | nil => simp
 | cons e l ih =>
  have he : streamB (e :: l) = frameB e ++ streamB l := rfl
  have := frameB_length e
  rw [he, List.length_append, List.length_cons]
  omega
theorem stream_cut : ∀ (l : List PE) (k : Nat), (∀ e ∈ l, e.may = true) → ∃ (m : Nat) (r : List Int), m ≤ l.length ∧ (streamB l).take k = streamB (l.take m) ++ r ∧ firstB r = none ∧ ∀ j, j ≤ l.length → (streamB (l.take j)).length ≤ k → j ≤ m
 | [], k, _ => ⟨0, [], Nat.le_refl _, by simp [streamB], rfl, fun j hj _ => hj⟩
 | e :: l, k, h => by
  have he : streamB (e :: l) = frameB e ++ streamB l := rfl
  by_cases hk : k < (frameB e).length
  · refine ⟨0, (frameB e).take k, Nat.zero_le _, ?_, firstB_cut e (h e (by simp)) hk, fun j hj hjk => ?_⟩
    · rw [he, List.take_append_of_le_length (by omega)]
      rfl
    · rcases j with _ | j
      · exact Nat.le_refl _
      · rw [List.take_succ_cons] at hjk
        have he2 : streamB (e :: l.take j) = frameB e ++ streamB (l.take j) := rfl
        rw [he2, List.length_append] at hjk
        omega
  · obtain ⟨m, r, h1, h2, h3, h4⟩ := stream_cut l (k - (frameB e).length) fun x hx => h x (by simp [hx])
    refine ⟨m + 1, r, by simp; omega, ?_, h3, fun j hj hjk => ?_⟩
    · rw [he, List.take_append, h2, List.take_of_length_le (by omega), List.take_succ_cons, ← List.append_assoc]
      rfl
    · rcases j with _ | j
      · omega
      · rw [List.take_succ_cons] at hjk
        have he2 : streamB (e :: l.take j) = frameB e ++ streamB (l.take j) := rfl
        rw [he2, List.length_append] at hjk
        have := h4 j (by simp at hj; omega) (by omega)
        omega
end Go.Proofs.YtlcfoeikamkpmaaGreat

namespace Go.Proofs.YtlcfoeikamkpmaaGreat
open Go.RowKit Go.Wh Go.Maps

def ic (l : List Int) : List Value := l.map fun z => .int .i64 z
structure WrAt (W : World) (X : Nat → Prop) (r : Nat) (S : List Int) (v : Value) (w : World) : Prop where
 only : Only X W w
 rx : X r
 rl : r < W.heap.size
 cells : cellsAt w r [v]
 vec : Vec w 1 v S.length (bc S)
 own : ∀ g, v.ownBlock = some g → (X g ∨ W.heap.size ≤ g) ∧ g ≠ r ∧ g < w.heap.size
 byt : Byt S
section
variable {W w w' w2 : World} {X : Nat → Prop} {r : Nat} {S S' : List Int} {v v' : Value}
theorem WrAt.still (h : WrAt W X r S v w) (hs : Still w w') : WrAt W X r S v w' :=
 ⟨h.only.trans (hs.mono fun _ e => e.elim), h.rx, h.rl, h.cells.only hs (fun e => e), h.vec.only hs (fun _ _ e => e), fun g hg => ⟨(h.own g hg).1, (h.own g hg).2.1, Nat.lt_of_lt_of_le (h.own g hg).2.2 hs.size⟩, h.byt⟩
def Its (r : Nat) (v : Value) (b : Nat) : Prop := b = r ∨ v.ownBlock = some b
theorem WrAt.base (h : WrAt W X r S v w) : WrAt w (Its r v) r S v w := ⟨Only.refl _ _, .inl rfl, h.cells.lt, h.cells, h.vec, fun g hg => ⟨.inl (.inr hg), (h.own g hg).2⟩, h.byt⟩
theorem WrAt.back (h : WrAt W X r S v w) (k : WrAt w (Its r v) r S' v' w') : WrAt W X r S' v' w' :=
 ⟨h.only.andThen k.only fun i hi e => e.elim (fun e => e ▸ h.rx) fun e => (h.own i e).1.elim id fun e => by omega, h.rx, h.rl, k.cells, k.vec, fun g hg => ⟨(k.own g hg).1.elim (fun e => e.elim (fun e => absurd e (k.own g hg).2.1) fun e => (h.own g e).1) fun e => .inr (Nat.le_trans h.only.size e), (k.own g hg).2⟩, k.byt⟩
theorem WrAt.apart (h : WrAt W X r S v w) {b : Nat} (hb : w.heap.size ≤ b) : ¬ Its r v b := fun e => e.elim (fun e => by have := h.cells.lt; omega) fun e => by have := (h.own b e).2.2; omega
theorem WrAt.off (h : WrAt W X r S v w) {b : Nat} (hx : ¬ X b) (hb : b < W.heap.size) : ¬ Its r v b := fun e => e.elim (fun e => hx (e ▸ h.rx)) fun e => (h.own b e).1.elim hx fun e => by omega
theorem WrAt.put {Y : List Int} (h : WrAt W X r S v w) (hv : Vec w' 1 v' (S.length + Y.length) (bc S ++ bc Y)) (ho : Only (fun k => v.ownBlock = some k) w w') (hb : v'.ownBlock = v.ownBlock ∨ ∃ g, v'.ownBlock = some g ∧ w.heap.size ≤ g ∧ g < w'.heap.size) (hx : Byt Y) : WrAt W X r (S ++ Y) v' (w'.setCell ⟨r, 0, none⟩ v') := by
 have hz : (w'.setCell ⟨r, 0, none⟩ v').heap.size = w'.heap.size := by simp [World.setCell]
 have z1 := h.only.size
 have z2 := ho.size
 have hs := setCell_only w' ⟨r, 0, none⟩ v'
 have hlt := h.cells.lt
 have hv' : ∀ g, v'.ownBlock = some g → (X g ∨ W.heap.size ≤ g) ∧ g ≠ r ∧ g < w'.heap.size := fun g hg => by
  rcases hb with e | ⟨g', e, e1, e2⟩
  · rw [e] at hg
    have := h.own g hg
    exact ⟨this.1, this.2.1, by omega⟩
  · rw [e] at hg
    injection hg with hg
    exact ⟨.inr (by omega), by omega, by omega⟩
 refine ⟨?_, h.rx, h.rl, ?_, ?_, fun g hg => by rw [hz]; exact hv' g hg, h.byt.append hx⟩
 · have h1 : Only X W w' := h.only.andThen ho fun k hk e => (h.own k e).1.elim id fun e => by omega
   exact h1.trans (hs.mono fun b e => by rw [show b = r from e]; exact h.rx)
 · exact (h.cells.only ho fun e => (h.own r e).2.1 rfl).setCell 0 v'
 · rw [List.length_append, bc_append]
   exact hv.only hs fun g hg e => (hv' g hg).2.1 e
end
theorem byte_shr (z : Int) (q : Nat) : IntKind.u8.wrap (z / 2 ^ (8 * (q : Int)).toNat) = z / 256 ^ q % 256 := by
 have e : (8 * (q : Int)).toNat = 8 * q := by omega
 rw [e, Int.pow_mul]
 have e2 : (2 : Int) ^ 8 = 256 := rfl
 rw [e2]
 generalize z / 256 ^ q = x
 rw [IntKind.wrap_u8]
def WPost (W : World) (X : Nat → Prop) (r : Nat) (S : List Int) (e : Ending) (w' : World) : Prop := e = .returned (.tuple #[]) ∧ ∃ v, WrAt W X r S v w'

def NumRel (W : World) (X : Nat → Prop) (r : Nat) (S T : List Int) (a : Addr) (l : List Int) (w : World) : Prop := ∃ v pre, WrAt W X r pre v w ∧ pre ++ T = S ∧ (∀ j u, (ic l)[j]? = some u → w.cell? (a.add j) = some u) ∧ v.ownBlock ≠ some a.block ∧ r ≠ a.block

set_option maxHeartbeats 2000000 in
set_option maxRecDepth 100000 in
theorem num_any (W w : World) (X : Nat → Prop) (r : Nat) (S : List Int) (v : Value) (n : Nat) (a : Addr) (m c : Nat) (l : List Int) (h : WrAt W X r S v w) (hl : Reads w 1 (.slice (some a) m c) m (ic l)) (hv : v.ownBlock ≠ some a.block) (hr : r ≠ a.block) (hn : n ≤ 3) (hp : ∀ z ∈ l, 0 ≤ z) (hS : S.length ≤ 100000) (hm : m ≤ 10) :
 Calls Tryz.prog 114 #[.pointer (some ⟨r, 0, none⟩), .int .i64 n, .slice (some a) m c] w (WPost W X r (S ++ numsB n l)) := by
 have H := Lib.hid (And.intro h (And.intro hl (And.intro hv (And.intro hr (And.intro hn (And.intro hp (And.intro hS hm)))))))
 obtain ⟨i0, hi0, hz0, hz1, hz2⟩ := info_parts info_b
 have HI := Lib.hid (And.intro hi0 (And.intro hz0 (And.intro hz1 hz2)))
 have HST := Lib.hid (show NumRel W X r (S ++ numsB n l) (numsB n (l.drop 0)) a l w from ⟨v, S, h, rfl, fun j u hj => by
  rcases hl.2 with ⟨e, _⟩ | ⟨a', c', e, hc⟩
  · cases e
  · cases e
    exact hc j u hj, hv, hr⟩)
 have hlm : l.length = m := by have := hl.1; unfold ic at this; rw [List.length_map] at this; omega
 have HL := Lib.hid hlm
 clear h hl hv hr hn hp hS hm hi0 hz0 hz1 hz2 hlm
 go_enter Tryz.func114, Tryz.ntmps114
 go_wp2_with fail
 go_loopw [11] (fun s wr => ∃ k : Nat, s = .int .i64 k ∧ k ≤ m ∧ NumRel W X r (S ++ numsB n l) (numsB n (l.drop k)) a l wr) (fun s _ => m - (intOf s).toNat)
 case atStart => exact ⟨0, rfl, Nat.zero_le _, HST.out⟩
 case round =>
  clear HST
  obtain ⟨k, rfl, hk, hr0⟩ := hrel
  have HR := Lib.hid hr0
  by_cases hi : k < m
  · obtain ⟨z, hz⟩ : ∃ z, l[k]? = some z := ⟨_, List.getElem?_eq_getElem (by have := HL.out; omega)⟩
    obtain ⟨_, _, _, _, hc, _, _⟩ := hr0
    have c1 := hc k (.int .i64 z) (by unfold ic; rw [List.getElem?_map, hz]; rfl)
    have b1 : decide ((k : Int) < (m : Int)) = true := by simp; omega
    have b2 : decide (k < m) = true := by simp; omega
    have b3 : (0 : Int) ≤ (k : Int) := by omega
    have b4 : (k : Int) < (m : Int) := by omega
    have HZ := Lib.hid hz
    have hn3 := H.out.2.2.2.2.1
    have u9 : IntKind.i64.wrap ((k : Int) + 1) = (k : Int) + 1 := IntWalk.i64_in _ (by have := H.out.2.2.2.2.2.2.2; omega)
    have HR2 := Lib.hid (show NumRel W X r (S ++ numsB n l) (numB n z ++ numsB n (l.drop (k + 1))) a l wr from by
     have := HR.out
     rwa [List.drop_eq_getElem_cons (by have := HL.out; omega), numsB_cons, show l[k]'(by have := HL.out; omega) = z from (List.getElem?_eq_some_iff.1 hz).2] at this)
    clear hc hz
    go_wp2_with fail
    obtain ⟨wo, rfl⟩ : ∃ wo : World, wo = wr := ⟨_, rfl⟩
    go_loopw [8] (fun s wr => ∃ q : Nat, s = .int .i64 ((q : Int) - 1) ∧ q ≤ n ∧ NumRel W X r (S ++ numsB n l) (numB q z ++ numsB n (l.drop (k + 1))) a l wr) (fun s _ => ((intOf s) + 1).toNat)
    case atStart => exact ⟨n, rfl, Nat.le_refl _, HR2.out⟩
    case round =>
     clear HR2
     obtain ⟨q, rfl, hq, hr1⟩ := hrel
     by_cases hq0 : 0 < q
     · obtain ⟨q, rfl⟩ : ∃ q', q = q' + 1 := ⟨q - 1, by omega⟩
       have e0 : (((q + 1 : Nat) : Int) - 1) = (q : Int) := by omega
       rw [e0]
       have c1 : decide ((0 : Int) ≤ (q : Int)) = true := by simp
       obtain ⟨v, pre, hw, hpre, hcs, hva, hra⟩ := hr1
       obtain ⟨va, vc, rfl⟩ := hw.vec.form'
       have SS := Lib.hid (fun w' (hs : Still wr w') => show w'.cell? ⟨r, 0, none⟩ = some (.slice va pre.length vc) from Still.cell hs (hw.cells.cell 0))
       have HW := Lib.hid (And.intro hw (And.intro hpre (And.intro hcs (And.intro hva hra))))
       have HFIN := Lib.hid (fun tt v' w' (hv' : Vec w' 1 v' (pre.length + 1) (bc pre ++ [.int .u8 (IntKind.u8.wrap (z / 2 ^ (8 * (q : Int)).toNat))])) (ho' : Only (fun k => (Value.slice va pre.length vc).ownBlock = some k) (wr.drew.alloc (.cells #[.int .u8 (IntKind.u8.wrap (z / 2 ^ (8 * (q : Int)).toNat))] tt)) w')
        (hb' : v'.ownBlock = (Value.slice va pre.length vc).ownBlock ∨ ∃ g, v'.ownBlock = some g ∧ (wr.drew.alloc (.cells #[.int .u8 (IntKind.u8.wrap (z / 2 ^ (8 * (q : Int)).toNat))] tt)).heap.size ≤ g ∧ g < w'.heap.size) =>
        show w'.cell? ⟨r, 0, none⟩ = some (.slice va pre.length vc) ∧ w'.frozen? ⟨r, 0, none⟩ = false ∧ NumRel W X r (S ++ numsB n l) (numB q z ++ numsB n (l.drop (k + 1))) a l (w'.setCell ⟨r, 0, none⟩ v') from by
         have z0 := H.out.2.2.2.2.2.1 z (List.mem_of_getElem? HZ.out)
         have hst : Still wr (wr.drew.alloc (.cells #[.int .u8 (IntKind.u8.wrap (z / 2 ^ (8 * (q : Int)).toNat))] tt)) := (still_drew wr).alloc _
         rw [byte_shr] at hv' ho' hb' hst
         have h1 := hw.still hst
         have hne : ¬ (Value.slice va pre.length vc).ownBlock = some r := fun e => (hw.own r e).2.1 rfl
         have hc1 := h1.cells.only ho' hne
         refine ⟨hc1.cell 0, hc1.free 0, ?_⟩
         have hp := h1.put (Y := [z / 256 ^ q % 256]) hv' ho' hb' (fun y hy => by rw [List.mem_singleton.1 hy]; omega)
         refine ⟨v', pre ++ [z / 256 ^ q % 256], hp, ?_, fun j u hj => ?_, fun e => ?_, hra⟩
         · rw [← hpre, List.append_assoc]
           rfl
         · have hcu := hcs j u hj
           have hlt := World.block_lt_of_cell? _ _ hcu
           have hb : (a.add j).block = a.block := by unfold Addr.add; split <;> rfl
           rw [hb] at hlt
           have e1 := Still.cell hst hcu
           have e2 := (ho'.cell (World.block_lt_of_cell? _ _ e1) (by rw [hb]; exact hva)).trans e1
           exact ((setCell_only w' ⟨r, 0, none⟩ v').cell (World.block_lt_of_cell? _ _ e2) (by rw [hb]; exact fun e => hra e.symm)).trans e2
         · have hcu := hcs k _ (show (ic l)[k]? = some (.int .i64 z) from by unfold ic; rw [List.getElem?_map, HZ.out]; rfl)
           have hlt := World.block_lt_of_cell? _ _ hcu
           have hb : (a.add k).block = a.block := by unfold Addr.add; split <;> rfl
           rw [hb] at hlt
           rcases hb' with e' | ⟨g, e', e1, e2⟩
           · rw [e'] at e
             exact hva e
           · rw [e'] at e
             injection e with e
             have := hst.size
             omega)
       have HVT := Lib.hid (fun A => show Vec (wr.drew.alloc A) 1 (.slice va pre.length vc) pre.length (bc pre) from hw.vec.drew.alloc A)
       have HLN := Lib.hid (show pre.length ≤ 101000 from by
        have e1 := congrArg List.length hpre
        simp only [List.length_append, numsB_length] at e1
        have e2 := H.out.2.2.2.2.2.2
        have e3 := HL.out
        have e4 : l.length * n ≤ 10 * 3 := Nat.mul_le_mul (by omega) hn3
        omega)
       have HRX := Lib.hid (fun tt => show Reads (wr.drew.alloc (.cells #[.int .u8 (IntKind.u8.wrap (z / 2 ^ (8 * (q : Int)).toNat))] tt)) 1 (.slice (some ⟨wr.heap.size, 0, none⟩) 1 1) 1 [.int .u8 (IntKind.u8.wrap (z / 2 ^ (8 * (q : Int)).toNat))] from
        (cellsAt_new wr.drew [.int .u8 (IntKind.u8.wrap (z / 2 ^ (8 * (q : Int)).toNat))] tt).reads rfl)
       clear hw hpre hcs hva hra
       generalize hpl : pre.length = pl at *
       have HPL := Lib.hid hpl
       clear hpl
       have u8 : IntKind.i64.wrap (8 * (q : Int)) = 8 * (q : Int) := IntWalk.i64_in _ (by omega)
       have s0 : (0 : Int) ≤ 8 * (q : Int) := by omega
       have s1 : 8 * (q : Int) < 64 := by omega
       have z0 := H.out.2.2.2.2.2.1 z (List.mem_of_getElem? HZ.out)
       go_wp2_with fail
       refine wp_region_D_drew (D := (fun i => [0, 1, 2, 3, 12, 13, 14].contains i)) (S := (fun w' => w'.cell? ⟨r, 0, none⟩ = some (.slice va pl vc))) (by kernel_rfl) ?_ (fun hHeld => ?_)
       · exact SS.out _ (still_drew _)
       (refine takeD (i := 0) (some 21) (v := ?_) rfl (by rfl) (by rfl) (by kernel_rfl) (by rfl) (fun _ _ _ h => h) ?_ ?_; rotate_left; (intro w; go_simp; try with_reducible rfl); try go_frame)
       (refine takeD (i := 1) (some 22) (v := ?_) rfl (by rfl) (by rfl) (by kernel_rfl) (by rfl) (fun _ _ _ h => h) ?_ ?_; rotate_left; (intro w; go_simp; try with_reducible rfl); try go_frame)
       (refine takeD (i := 2) (some 23) (v := ?_) rfl (by rfl) (by rfl) (by kernel_rfl) (by rfl) (fun _ _ _ h => h) ?_ ?_; rotate_left; (intro w; go_simp; try with_reducible rfl); try go_frame)
       (refine takeD (i := 3) (some 24) (v := ?_) rfl (by rfl) (by rfl) (by kernel_rfl) (by rfl) (fun _ _ _ h => h) ?_ ?_; rotate_left; (intro w; go_simp; try with_reducible rfl); try go_frame)
       (refine takeS (i := 4) (some 25) (v := ?_) rfl (by rfl) (by rfl) (by kernel_rfl) (by rfl) (fun _ _ _ h => h) (by assumption) ?_ ?_; rotate_left; (intro w hSw; (try dsimp only at hSw); go_simp; try with_reducible rfl); try go_frame)
       (refine takeS (i := 5) (some 26) (v := ?_) rfl (by rfl) (by rfl) (by kernel_rfl) (by rfl) (fun _ _ _ h => h) (by assumption) ?_ ?_; rotate_left; (intro w hSw; (try dsimp only at hSw); go_simp; try with_reducible rfl); try go_frame)
       (refine takeS (i := 6) (some 27) (v := ?_) rfl (by rfl) (by rfl) (by kernel_rfl) (by rfl) (fun _ _ _ h => h) (by assumption) ?_ ?_; rotate_left; (intro w hSw; (try dsimp only at hSw); go_simp; try with_reducible rfl); try go_frame)
       (refine takeS (i := 7) (some 28) (v := ?_) rfl (by rfl) (by rfl) (by kernel_rfl) (by rfl) (fun _ _ _ h => h) (by assumption) ?_ ?_; rotate_left; (intro w hSw; (try dsimp only at hSw); go_simp; try with_reducible rfl); try go_frame)
       (refine takeS (i := 8) (some 29) (v := ?_) rfl (by rfl) (by rfl) (by kernel_rfl) (by rfl) (fun _ _ _ h => h) (by assumption) ?_ ?_; rotate_left; (intro w hSw; (try dsimp only at hSw); go_simp; try with_reducible rfl); try go_frame)
       (refine takeS (i := 9) (some 30) (v := ?_) rfl (by rfl) (by rfl) (by kernel_rfl) (by rfl) (fun _ _ _ h => h) (by assumption) ?_ ?_; rotate_left; (intro w hSw; (try dsimp only at hSw); go_simp; try with_reducible rfl); try go_frame)
       refine wpAnyD_ready (rs := [10]) (by kernel_rfl) (by simp) ?_
       refine ReadyD.cons rfl (fun K hK => ?_) ?_
       go_simp
       (refine hK.out _ _ ?_ (fun hNew => ?_); (focus (exact SS.out _ ((still_drew _).alloc _))); clear hHeld; have hHeld := hNew; clear hNew)
       (clear hK K; try go_frame)
       refine wpAnyD_ready (rs := [11]) (by kernel_rfl) (by simp) ?_
       refine ReadyD.cons rfl (fun K hK => ?_) ?_
       refine step_append_vec rfl _ _ 22 rfl 5 i0 _ 1 1 Tryz.underlying22 HI.out.1 HI.out.2.1 HI.out.2.2.1 HI.out.2.2.2 rfl (by decide) (.slice va pl vc) pl (bc pre) (by simp [Act.eval]) (HVT.out _) (.slice (some ⟨wr.heap.size, 0, none⟩) 1 1) 1 [.int .u8 (IntKind.u8.wrap (z / 2 ^ (8 * (q : Int)).toNat))] (by simp [Act.eval]) (HRX.out _) (by intro u hu; simp at hu; rw [hu]; rfl) (by have := HLN.out; simp only [maxLen]; omega) (by have := HLN.out; omega) ?_
       intro v' w' hv' ho' hb'
       obtain ⟨k1, k2, k3⟩ := HFIN.out _ v' w' hv' ho' hb'
       obtain ⟨va', vc', rfl⟩ := hv'.form'
       have HK3 := Lib.hid k3
       (refine hK.out _ _ ?_ (fun hNew => ?_); (focus (exact k1)); clear hHeld; have hHeld := hNew; clear hNew)
       (clear hK K hv' ho' hb' k3; try go_frame)
       (refine takeD (i := 12) (some 33) (v := ?_) rfl (by rfl) (by rfl) (by kernel_rfl) (by rfl) (fun _ _ _ h => h) ?_ ?_; rotate_left; (intro w; go_simp; try with_reducible rfl); try go_frame)
       (refine takeD (i := 13) (some 34) (v := ?_) rfl (by rfl) (by rfl) (by kernel_rfl) (by rfl) (fun _ _ _ h => h) ?_ ?_; rotate_left; (intro w; go_simp; try with_reducible rfl); try go_frame)
       refine wpAnyD_ready (rs := [14]) (by kernel_rfl) (by simp) ?_
       refine ReadyD.last rfl (by rfl) (fun K hK => ?_) ?_
       go_simp
       refine hK.out _ _ ?_
       (clear hK K; try go_frame)
       refine wpAnyD_done (by kernel_rfl) ?_ _
       rotate_left
       exact ReadyD.nil
       exact ReadyD.nil
       exact ReadyD.nil
       go_wp2_with fail
       go_roundw
       case rel => exact ⟨q, by go_num, by omega, HK3.out⟩
       case measure => simp [intOf]
     · have hq0 : q = 0 := by omega
       subst hq0
       have c1 : decide ((0 : Int) ≤ ((0 : Nat) : Int) - 1) = false := by decide
       have HR3 := Lib.hid (show NumRel W X r (S ++ numsB n l) (numsB n (l.drop (k + 1))) a l wr from hr1)
       clear hr1
       go_wp2_with fail
       go_roundw
       case rel => exact ⟨k + 1, by go_num, by omega, HR3.out⟩
       case measure => simp [intOf]; omega
  · have hke : k = m := by omega
    subst hke
    have b1 : decide ((k : Int) < (k : Int)) = false := by simp
    have F := Lib.hid (show WPost W X r (S ++ numsB n l) (.returned (.tuple #[])) wr from by
     obtain ⟨v, pre, hw, hpre, -⟩ := hr0
     rw [List.drop_eq_nil_of_le (by have := HL.out; omega), numsB_nil, List.append_nil] at hpre
     rw [← hpre]
     exact ⟨rfl, v, hw⟩)
    clear hr0
    go_wp2_with fail
    go_end0
    exact F.out

theorem num_new (W w : World) (X : Nat → Prop) (r : Nat) (S : List Int) (v : Value) (n m : Nat) (N : Int) (l : List Int) (tt : TypeId) {B : Nat} (hB : w.heap.size = B) (hN : (n : Int) = N) (h : WrAt W X r S v w) (hl : l.length = m) (hn : n ≤ 3) (hp : ∀ z ∈ l, 0 ≤ z) (hS : S.length ≤ 100000) (hm : m ≤ 10) :
 Calls Tryz.prog 114 #[.pointer (some ⟨r, 0, none⟩), .int .i64 N, .slice (some ⟨B, 0, none⟩) m m] (w.alloc (.cells (ic l).toArray tt)) (WPost W X r (S ++ numsB n l)) := by
 subst hN
 subst hB
 exact num_any W _ X r S v n ⟨w.heap.size, 0, none⟩ m m l (h.still ((Still.refl w).alloc _)) ((cellsAt_new w (ic l) tt).reads (by unfold ic; rw [List.length_map, hl]; omega)) (fun e => by have := (h.own _ e).2.2; simp at this) (fun e => by have := h.cells.lt; simp at e; omega) hn hp hS hm
theorem num1 {W w : World} {X : Nat → Prop} {r : Nat} {S : List Int} {v : Value} (n : Nat) {N : Int} (hN : (n : Int) = N) (z : Int) (tt : TypeId) {B : Nat} (hB : w.heap.size = B) (h : WrAt W X r S v w) (hn : n ≤ 3) (hz : 0 ≤ z) (hS : S.length ≤ 100000) :
 Calls Tryz.prog 114 #[.pointer (some ⟨r, 0, none⟩), .int .i64 N, .slice (some ⟨B, 0, none⟩) 1 1] (w.alloc (.cells #[.int .i64 z] tt)) (WPost W X r (S ++ numsB n [z])) :=
 num_new W w X r S v n 1 N [z] tt hB hN h rfl hn (fun y hy => by rw [List.mem_singleton.1 hy]; exact hz) hS (by omega)
theorem num2 {W w : World} {X : Nat → Prop} {r : Nat} {S : List Int} {v : Value} (n : Nat) {N : Int} (hN : (n : Int) = N) (y z : Int) (tt : TypeId) {B : Nat} (hB : w.heap.size = B) (h : WrAt W X r S v w) (hn : n ≤ 3) (hy : 0 ≤ y) (hz : 0 ≤ z) (hS : S.length ≤ 100000) :
 Calls Tryz.prog 114 #[.pointer (some ⟨r, 0, none⟩), .int .i64 N, .slice (some ⟨B, 0, none⟩) 2 2] (w.alloc (.cells #[.int .i64 y, .int .i64 z] tt)) (WPost W X r (S ++ numsB n [y, z])) :=
 num_new W w X r S v n 2 N [y, z] tt hB hN h rfl hn (fun x hx => by simp at hx; rcases hx with rfl | rfl <;> assumption) hS (by omega)

set_option maxHeartbeats 1000000 in
theorem wspot_any {W w : World} {X : Nat → Prop} {r : Nat} {S : List Int} {v : Value} (p c : Int) (h : WrAt W X r S v w) (hp : 0 ≤ p) (hc : 0 ≤ c) (hS : S.length ≤ 100000) :
 Calls Tryz.prog 115 #[.pointer (some ⟨r, 0, none⟩), .agg #[.int .i64 p, .int .i64 c]] w (WPost W X r (S ++ numsB 1 [p, c])) := by
 have HN := Lib.hid (fun t tt => num2 1 rfl p c tt (B := w.heap.size + 1) (by simp) (h.still ((Still.refl w).alloc (.cells #[.int .i64 p, .int .i64 c] t))) (by omega) hp hc hS)
 clear h hp hc hS
 go_enter Tryz.func115, Tryz.ntmps115
 go_wp2_with fail
 refine (HN.out _ _).mono ?_
 rintro e w' ⟨rfl, hw⟩
 have F := Lib.hid (show WPost W X r (S ++ numsB 1 [p, c]) (.returned (.tuple #[])) w' from ⟨rfl, hw⟩)
 clear hw
 go_wp2_with fail
 go_end0
 exact F.out
set_option maxHeartbeats 1000000 in
theorem wmove_any {W w : World} {X : Nat → Prop} {r : Nat} {S : List Int} {v : Value} (m : PMv) (h : WrAt W X r S v w) (hm : mvMay m = true) (hS : S.length ≤ 90000) :
 Calls Tryz.prog 118 #[.pointer (some ⟨r, 0, none⟩), .agg #[.int .i64 m.fp, .int .i64 m.fc, .int .i64 m.tp, .int .i64 m.tc]] w (WPost W X r (S ++ mvB m)) := by
 obtain ⟨a, b, c, d⟩ := m
 have hm' := hm
 unfold mvMay at hm'
 simp only [Bool.and_eq_true, fitsB_cons] at hm'
 have H := Lib.hid (And.intro h hS)
 have HM := Lib.hid hm'
 have HN := Lib.hid (fun t => show Calls Tryz.prog 115 #[.pointer (some ⟨r, 0, none⟩), .agg #[.int .i64 a, .int .i64 b]] (w.alloc (.cells #[.int .i64 a, .int .i64 b, .int .i64 c, .int .i64 d] t)) (fun e w2 => e = .returned (.tuple #[]) ∧ ∃ v2, WrAt W X r (S ++ numsB 1 [a, b]) v2 w2 ∧ cellsAt w2 w.heap.size [.int .i64 a, .int .i64 b, .int .i64 c, .int .i64 d]) from by
  have h1 := h.still ((Still.refl w).alloc (.cells #[.int .i64 a, .int .i64 b, .int .i64 c, .int .i64 d] t))
  refine (wspot_any a b h1.base hm'.1.1.1 hm'.1.2.1.1 (by omega)).mono ?_
  rintro e w2 ⟨rfl, v2, h2⟩
  exact ⟨rfl, v2, h1.back h2, (cellsAt_new w [.int .i64 a, .int .i64 b, .int .i64 c, .int .i64 d] t).only h2.only fun e => h.apart (Nat.le_refl _) e⟩)
 clear h hm hm' hS
 go_enter Tryz.func118, Tryz.ntmps118
 go_wp2_with fail
 refine (HN.out _).mono ?_
 rintro e w2 ⟨rfl, v2, h2, hb2⟩
 have c2 : w2.cell? ⟨w.heap.size, 2, none⟩ = some (.int .i64 c) := hb2.cell 2
 have c3 : w2.cell? ⟨w.heap.size, 3, none⟩ = some (.int .i64 d) := hb2.cell 3
 have H2 := Lib.hid h2
 clear h2 hb2 HN
 go_wp2_with fail
 refine (wspot_any c d H2.out HM.out.2.1.1 HM.out.2.2.1.1 (by rw [List.length_append, numsB_length]; simp; have := H.out.2; omega)).mono ?_
 rintro e w3 ⟨rfl, h3⟩
 have F := Lib.hid (show WPost W X r (S ++ mvB ⟨a, b, c, d⟩) (.returned (.tuple #[])) w3 from ⟨rfl, by
  rw [List.append_assoc] at h3
  exact h3⟩)
 clear h3 H2 c2 c3
 go_wp2_with fail
 go_end0
 exact F.out
end Go.Proofs.YtlcfoeikamkpmaaGreat

namespace Go.Proofs.YtlcfoeikamkpmaaGreat
open Go.RowKit Go.Wh Go.Maps

theorem flat_get {α : Type} {f : α → List Value} {sz : Nat} (hf : ∀ x, (f x).length = sz) : ∀ (l : List α) (k j : Nat) (x : α), l[k]? = some x → j < sz → (l.flatMap f)[k * sz + j]? = (f x)[j]?
 | [], _, _, _, h, _ => by simp at h
 | y :: l, 0, j, x, h, hj => by
  simp at h
  subst h
  rw [List.flatMap_cons, Nat.zero_mul, Nat.zero_add, List.getElem?_append_left (by rw [hf]; exact hj)]
 | y :: l, k + 1, j, x, h, hj => by
  rw [List.flatMap_cons, List.getElem?_append_right (by rw [hf, Nat.add_mul]; omega), hf]
  have e : (k + 1) * sz + j - sz = k * sz + j := by rw [Nat.add_mul]; omega
  rw [e]
  exact flat_get hf l k j x (by simpa using h) hj
theorem flat_len {α : Type} {f : α → List Value} {sz : Nat} (hf : ∀ x, (f x).length = sz) (l : List α) : (l.flatMap f).length = l.length * sz := by
 induction l with
 | nil => simp
 | cons x l ih => rw [List.flatMap_cons, List.length_append, hf, ih, List.length_cons, Nat.add_mul]; omega

def mvC (m : PMv) : List Value := [.int .i64 m.fp, .int .i64 m.fc, .int .i64 m.tp, .int .i64 m.tc]
def lvC (x : PLv) : List Value := [.int .i64 x.txn, .int .i64 x.last, .int .i64 x.next, .bool x.commit]
def dtC (x : PDt) : List Value := [.int .i64 x.page, .int .i64 x.rc]

set_option maxHeartbeats 1000000 in
theorem wimage_any {W w : World} {X Q : Nat → Prop} {r : Nat} {S : List Int} {v dv : Value} {m : Nat} {l : List Int} (h : WrAt W X r S v w) (hd : Sl W Q 1 dv m (bc l)) (hq : ∀ g, Q g → ¬ X g) (hm : m ≤ 26) (hb : Byt l) (hS : S.length ≤ 90000) :
 Calls Tryz.prog 116 #[.pointer (some ⟨r, 0, none⟩), dv] w (WPost W X r (S ++ imB l)) := by
 have hlen : l.length = m := by have := hd.1; rw [bc_length] at this; omega
 have H := Lib.hid (And.intro h (And.intro hd (And.intro hm (And.intro hb hS))))
 have HN := Lib.hid (fun tt => show Calls Tryz.prog 114 #[.pointer (some ⟨r, 0, none⟩), .int .i64 1, .slice (some ⟨w.heap.size, 0, none⟩) 1 1] (w.alloc (.cells #[.int .i64 (m : Int)] tt)) (fun e w2 => e = .returned (.tuple #[]) ∧ ∃ v2, WrAt W X r (S ++ numsB 1 [(m : Int)]) v2 w2 ∧ Sl w2 Q 1 dv m (bc l)) from by
  refine (num1 1 rfl (m : Int) tt rfl h (by omega) (by omega) (by omega)).mono ?_
  rintro e w2 ⟨rfl, v2, h2⟩
  exact ⟨rfl, v2, h2, hd.only h2.only hq⟩)
 have HL := Lib.hid hlen
 obtain ⟨da, dc, rfl⟩ := hd.form
 obtain ⟨i0, hi0, hz0, hz1, hz2⟩ := info_parts info_b
 have HI := Lib.hid (And.intro hi0 (And.intro hz0 (And.intro hz1 hz2)))
 clear h hd hq hm hb hS hlen hi0 hz0 hz1 hz2
 go_enter Tryz.func116, Tryz.ntmps116
 go_wp2_with fail
 refine (HN.out _).mono ?_
 rintro e w2 ⟨rfl, v2, h2, hd2⟩
 obtain ⟨va, vc, rfl⟩ := h2.vec.form'
 have c0 : w2.cell? ⟨r, 0, none⟩ = some (.slice va (S ++ numsB 1 [(m : Int)]).length vc) := h2.cells.cell 0
 have H2 := Lib.hid (And.intro h2 hd2)
 clear h2 hd2 HN
 generalize hpl : (S ++ numsB 1 [(m : Int)]).length = pl at *
 have HP := Lib.hid hpl
 clear hpl
 go_wp2_with (at_builtin; refine wpList_append_vec rfl _ _ 22 rfl 5 i0 _ 1 1 Tryz.underlying22 HI.out.1 HI.out.2.1 HI.out.2.2.1 HI.out.2.2.2 rfl (by decide) (.slice va pl vc) pl (bc (S ++ numsB 1 [(m : Int)])) (by simp [Act.eval]) ?_ (.slice da m dc) m (bc l) (by simp [Act.eval]) H2.out.2.reads (bc_one _) ?_ ?_ ?_)
 · have := H2.out.1.vec
   rwa [HP.out] at this
 · have := HP.out; rw [List.length_append, numsB_length] at this; simp only [List.length_cons, List.length_nil] at this; have := H.out; simp only [maxLen]; omega
 · have := HP.out; rw [List.length_append, numsB_length] at this; simp only [List.length_cons, List.length_nil] at this; have := H.out; omega
 · intro v' w' hv' ho' hb'
   have h3 := H2.out.1.put (Y := l) (by rw [HL.out, HP.out]; exact hv') ho' hb' H.out.2.2.2.1
   have hcl := (H2.out.1.cells.only ho' fun e => (H2.out.1.own r e).2.1 rfl)
   have c1 := hcl.cell 0
   have f1 := hcl.free 0
   obtain ⟨va', vc', rfl⟩ := hv'.form'
   have F := Lib.hid (show WPost W X r (S ++ imB l) (.returned (.tuple #[])) (w'.setCell ⟨r, 0, none⟩ (.slice va' (pl + m) vc')) from ⟨rfl, _, by
    have e : S ++ imB l = S ++ numsB 1 [(m : Int)] ++ l := by
     unfold imB
     rw [HL.out, List.append_assoc]
    rw [e]
    exact h3⟩)
   clear h3 hcl hv' ho' hb' c0
   go_wp2_with fail
   go_end0
   exact F.out
end Go.Proofs.YtlcfoeikamkpmaaGreat

namespace Go.Proofs.YtlcfoeikamkpmaaGreat
open Go.RowKit Go.Wh Go.Maps

def LsRel (W : World) (X : Nat → Prop) (r : Nat) (S T : List Int) (k : Nat) (w : World) : Prop := ∃ v pre, WrAt W X r pre v w ∧ pre ++ T = S ∧ pre.length ≤ k

set_option maxHeartbeats 1000000 in
theorem wlist_mv {W w : World} {X Q : Nat → Prop} {r : Nat} {S : List Int} {v dv : Value} {m : Nat} {l : List PMv} (h : WrAt W X r S v w) (hd : Sl W Q 4 dv m (l.flatMap mvC)) (hq : ∀ g, Q g → ¬ X g) (hl : l.length = m) (hp : eachB mvMay l = true) (hS : S.length ≤ 80000) :
 Calls Tryz.prog 117 #[.pointer (some ⟨r, 0, none⟩), dv, .func (.func 118) #[.pointer (some ⟨r, 0, none⟩)] #[]] w (WPost W X r (S ++ listB mvB l)) := by
 have hm := (eachB_len hp).1
 have H := Lib.hid (And.intro h (And.intro hd (And.intro hl (And.intro (eachB_len hp) hS))))
 have HQ := Lib.hid hq
 have HN := Lib.hid (fun tt => num1 (W := W) (X := X) 1 rfl (m : Int) tt rfl h (by omega) (by omega) (by omega))
 obtain ⟨da, dc, rfl⟩ := hd.form
 clear h hd hq hp hS hl hm
 go_enter Tryz.func117, Tryz.ntmps117
 go_wp2_with fail
 refine (HN.out _).mono ?_
 rintro e w2 ⟨rfl, v2, h2⟩
 have HST := Lib.hid (show LsRel W X r (S ++ listB mvB l) ((l.drop 0).flatMap mvB) (80100 + 0 * 164) w2 from ⟨v2, _, h2, by
  unfold listB
  rw [H.out.2.2.1, List.append_assoc]
  rfl, by rw [List.length_append, numsB_length]; simp only [List.length_cons, List.length_nil]; have := H.out.2.2.2.2; omega⟩)
 clear HN h2
 go_wp2_with fail
 go_loopw [15] (fun s wr => ∃ k : Nat, s = .int .i64 k ∧ k ≤ m ∧ LsRel W X r (S ++ listB mvB l) ((l.drop k).flatMap mvB) (80100 + k * 164) wr) (fun s _ => m - (intOf s).toNat)
 case atStart => exact ⟨0, rfl, Nat.zero_le _, HST.out⟩
 case round =>
  clear HST
  obtain ⟨k, rfl, hk, v3, pre, h3, hpre, hlen⟩ := hrel
  by_cases hi : k < m
  · obtain ⟨x, hx⟩ : ∃ x, l[k]? = some x := ⟨_, List.getElem?_eq_getElem (by have := H.out.2.2.1; omega)⟩
    have hd3 := H.out.2.1.only h3.only HQ.out
    obtain ⟨g, o, c, hg, hgq, hgl, hcs⟩ := hd3.pos (by omega)
    cases hg
    have hfc : ∀ j, j < 4 → (l.flatMap mvC)[k * 4 + j]? = (mvC x)[j]? := fun j hj => flat_get (sz := 4) (fun _ => rfl) l k j x hx hj
    have c0 : wr.cell? ⟨g, o + k * 4, none⟩ = some (.int .i64 x.fp) := hcs (k * 4) _ (hfc 0 (by omega))
    have c1 : wr.cell? ⟨g, o + k * 4 + 1, none⟩ = some (.int .i64 x.fc) := by rw [Nat.add_assoc]; exact hcs (k * 4 + 1) _ (hfc 1 (by omega))
    have c2 : wr.cell? ⟨g, o + k * 4 + 2, none⟩ = some (.int .i64 x.tp) := by rw [Nat.add_assoc]; exact hcs (k * 4 + 2) _ (hfc 2 (by omega))
    have c3 : wr.cell? ⟨g, o + k * 4 + 3, none⟩ = some (.int .i64 x.tc) := by rw [Nat.add_assoc]; exact hcs (k * 4 + 3) _ (hfc 3 (by omega))
    have b1 : decide ((k : Int) < (m : Int)) = true := by simp; omega
    have b2 : decide (k < m) = true := by simp; omega
    have b3 : (0 : Int) ≤ (k : Int) := by omega
    have hk40 : k < 40 := by have := H.out.2.2.2.1.1; have := H.out.2.2.1; omega
    have b4 : (k : Int) < (m : Int) := by omega
    have H3 := Lib.hid (And.intro h3 (And.intro hpre hlen))
    clear h3 hpre hlen hfc hcs hd3 hgq hgl
    go_wp2_with fail
    have HX := Lib.hid (And.intro hx (H.out.2.2.2.1.2 x (List.mem_of_getElem? hx)))
    refine (wmove_any x (H3.out.1.still ((Still.refl _).alloc _)) HX.out.2 (by have := H3.out.2.2; omega)).mono ?_
    rintro e w4 ⟨rfl, v4, h4⟩
    have HNX := Lib.hid (show LsRel W X r (S ++ listB mvB l) ((l.drop (k + 1)).flatMap mvB) (80100 + (k + 1) * 164) w4 from ⟨v4, _, h4, by
     rw [List.append_assoc, ← H3.out.2.1, List.drop_eq_getElem_cons (show k < l.length by have := H.out.2.2.1; omega), show l[k]'(by have := H.out.2.2.1; omega) = x from (List.getElem?_eq_some_iff.1 HX.out.1).2, List.flatMap_cons], by
     have h4l : (mvB x).length ≤ 164 := by simp [mvB, numsB_length]
     rw [List.length_append]; have := H3.out.2.2; omega⟩)
    clear h4 hx c0 c1 c2 c3
    have u9 : IntKind.i64.wrap ((k : Int) + 1) = (k : Int) + 1 := IntWalk.i64_in _ (by have := H.out.2.2.2.1.1; have := H.out.2.2.1; omega)
    go_wp2_with fail
    go_roundw
    case rel => exact ⟨k + 1, by go_num, by omega, HNX.out⟩
    case measure => simp [intOf]; omega
  · have hke : k = m := by omega
    subst hke
    have b1 : decide ((k : Int) < (k : Int)) = false := by simp
    have F := Lib.hid (show WPost W X r (S ++ listB mvB l) (.returned (.tuple #[])) wr from by
     rw [List.drop_eq_nil_of_le (by have := H.out.2.2.1; omega), List.flatMap_nil, List.append_nil] at hpre
     rw [← hpre]
     exact ⟨rfl, v3, h3⟩)
    clear h3 hpre
    go_wp2_with fail
    go_end0
    exact F.out
end Go.Proofs.YtlcfoeikamkpmaaGreat
