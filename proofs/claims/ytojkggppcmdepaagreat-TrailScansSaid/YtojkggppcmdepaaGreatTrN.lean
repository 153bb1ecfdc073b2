/- Entries: as bytes, and read again; frames; which frames some bytes begin with: plain. No program. No conditions. -/
import Derived.Test.YtojkggppcmdepaaGreatTrM
namespace Go.Proofs.YtojkggppcmdepaaGreat

structure PMv where
  fp : Int
  fc : Int
  tp : Int
  tc : Int
structure PLv where
  txn : Int
  last : Int
  next : Int
  commit : Bool
structure PDt where
  page : Int
  rc : Int
structure POp where
  unit : Int
  moves : List PMv
  done : Int
/-- An entry. -/
structure PE where
  kind : Int
  txn : Int
  unit : Int
  half : Int
  prev : Int
  next : Int
  ap : Int
  ac : Int
  tp : Int
  tc : Int
  old : List Int
  new : List Int
  moves : List PMv
  lives : List PLv
  dirty : List PDt
  opens : List POp

def fitsB (n : Nat) (l : List Int) : Bool := l.all fun v => decide (0 ≤ v) && decide (v < 256 ^ n)
def imgB (b : List Int) : Bool := decide (b.length = 0) || decide (b.length = 26)
def eachB {α : Type} (p : α → Bool) (l : List α) : Bool := decide (l.length ≤ 40) && l.all p
def mvMay (m : PMv) : Bool := fitsB 1 [m.fp, m.fc] && fitsB 1 [m.tp, m.tc]
def lvMay (x : PLv) : Bool := fitsB 1 [x.txn] && fitsB 3 [x.last, x.next]
def dtMay (x : PDt) : Bool := fitsB 1 [x.page] && fitsB 3 [x.rc]
def opMay (x : POp) : Bool := fitsB 2 [x.unit] && fitsB 1 [x.done] && eachB mvMay x.moves
def PE.may (e : PE) : Bool := decide (1 ≤ e.kind) && decide (e.kind ≤ 10) && fitsB 1 [e.txn, e.half] && fitsB 2 [e.unit] && fitsB 3 [e.prev, e.next] && fitsB 1 [e.ap, e.ac] && fitsB 1 [e.tp, e.tc] && imgB e.old && imgB e.new && eachB mvMay e.moves && eachB lvMay e.lives && eachB dtMay e.dirty && eachB opMay e.opens

def listB {α : Type} (f : α → List Int) (l : List α) : List Int := numsB 1 [(l.length : Int)] ++ l.flatMap f
def mvB (m : PMv) : List Int := numsB 1 [m.fp, m.fc] ++ numsB 1 [m.tp, m.tc]
def bitB (b : Bool) : Int := if b then 1 else 0
def lvB (x : PLv) : List Int := numsB 1 [x.txn] ++ numsB 3 [x.last, x.next] ++ numsB 1 [bitB x.commit]
def dtB (x : PDt) : List Int := numsB 1 [x.page] ++ numsB 3 [x.rc]
def opB (x : POp) : List Int := numsB 2 [x.unit] ++ numsB 1 [x.done] ++ listB mvB x.moves
def imB (b : List Int) : List Int := numsB 1 [(b.length : Int)] ++ b
def encB (e : PE) : List Int := numsB 1 [e.kind, e.txn] ++ numsB 2 [e.unit] ++ numsB 1 [e.half] ++ numsB 3 [e.prev, e.next] ++ numsB 1 [e.ap, e.ac] ++ numsB 1 [e.tp, e.tc] ++ imB e.old ++ imB e.new ++ listB mvB e.moves ++ listB lvB e.lives ++ listB dtB e.dirty ++ listB opB e.opens

/-- What is left, and whether it was too short. -/
abbrev RS := List Int × Bool
def tkS (n : Nat) (s : RS) : List Int × RS := if s.1.length < n then (List.replicate n 0, ([], true)) else (s.1.take n, (s.1.drop n, s.2))
def numS (n : Nat) (s : RS) : Int × RS := (decB (tkS n s).1, (tkS n s).2)
def loopS {α : Type} (f : RS → α × RS) : Nat → RS → List α × RS
  | 0, s => ([], s)
  | k + 1, s => if s.2 then ([], s) else ((f s).1 :: (loopS f k (f s).2).1, (loopS f k (f s).2).2)
def readsS {α : Type} (f : RS → α × RS) (s : RS) : List α × RS := loopS f (numS 1 s).1.toNat (numS 1 s).2
def mvS (s : RS) : PMv × RS :=
  let a := numS 1 s
  let b := numS 1 a.2
  let c := numS 1 b.2
  let d := numS 1 c.2
  (⟨a.1, b.1, c.1, d.1⟩, d.2)
def lvS (s : RS) : PLv × RS :=
  let a := numS 1 s
  let b := numS 3 a.2
  let c := numS 3 b.2
  let d := numS 1 c.2
  (⟨a.1, b.1, c.1, d.1 == 1⟩, d.2)
def dtS (s : RS) : PDt × RS :=
  let a := numS 1 s
  let b := numS 3 a.2
  (⟨a.1, b.1⟩, b.2)
def opS (s : RS) : POp × RS :=
  let a := numS 2 s
  let b := numS 1 a.2
  let c := readsS mvS b.2
  (⟨a.1, c.1, b.1⟩, c.2)
def imS (s : RS) : List Int × RS := tkS (numS 1 s).1.toNat (numS 1 s).2
def decS (s0 : RS) : PE × RS :=
  let s1 := numS 1 s0
  let s2 := numS 1 s1.2
  let s3 := numS 2 s2.2
  let s4 := numS 1 s3.2
  let s5 := numS 3 s4.2
  let s6 := numS 3 s5.2
  let s7 := numS 1 s6.2
  let s8 := numS 1 s7.2
  let s9 := numS 1 s8.2
  let s10 := numS 1 s9.2
  let s11 := imS s10.2
  let s12 := imS s11.2
  let s13 := readsS mvS s12.2
  let s14 := readsS lvS s13.2
  let s15 := readsS dtS s14.2
  let s16 := readsS opS s15.2
  (⟨s1.1, s2.1, s3.1, s4.1, s5.1, s6.1, s7.1, s8.1, s9.1, s10.1, s11.1, s12.1, s13.1, s14.1, s15.1, s16.1⟩, s16.2)
/-- The entry of bytes. -/
def takeE (b : List Int) : Option PE := if (decS (b, false)).2.2 = false ∧ (decS (b, false)).1.may = true ∧ encB (decS (b, false)).1 = b then some (decS (b, false)).1 else none

section
variable {r : List Int} {n : Nat} {v : Int}
theorem decB_numB : ∀ (n : Nat) (v : Int), 0 ≤ v → v < 256 ^ n → decB (numB n v) = v := by
  have key : ∀ (n : Nat) (v u : Int), 0 ≤ v → v < 256 ^ n → (numB n v).foldl (fun v x => v * 256 + x) u = u * 256 ^ n + v := by
    intro n
    induction n with
    | zero =>
      intro v u h0 h1
      have : (256 : Int) ^ 0 = 1 := rfl
      rw [this] at h1
      show u = u * 256 ^ 0 + v
      rw [this]
      omega
    | succ n ih =>
      intro v u h0 h1
      have hp : (256 : Int) ^ (n + 1) = 256 ^ n * 256 := Int.pow_succ ..
      have hpos : (0 : Int) < 256 ^ n := Int.pow_pos (by decide)
      have hrec : numB n v = numB n (v % 256 ^ n) := by
        have : ∀ m, m ≤ n → numB m v = numB m (v % 256 ^ n) := by
          intro m
          induction m with
          | zero => intro _; rfl
          | succ m ihm =>
            intro hm
            show v / 256 ^ m % 256 :: numB m v = v % 256 ^ n / 256 ^ m % 256 :: numB m (v % 256 ^ n)
            rw [ihm (by omega)]
            congr 1
            obtain ⟨k, rfl⟩ : ∃ k, n = m + 1 + k := ⟨n - (m + 1), by omega⟩
            have hd : (256 : Int) ^ (m + 1 + k) = 256 ^ m * (256 * 256 ^ k) := by
              rw [Int.pow_add, Int.pow_succ, Int.mul_assoc]
            have hm0 : (0 : Int) < 256 ^ m := Int.pow_pos (by decide)
            have h2 := Int.mul_ediv_add_emod v (256 ^ (m + 1 + k))
            generalize v / 256 ^ (m + 1 + k) = q at h2
            generalize v % 256 ^ (m + 1 + k) = t at h2 ⊢
            rw [← h2, hd, Int.mul_assoc, Int.add_comm, Int.add_mul_ediv_left _ _ (by omega), Int.mul_assoc 256, Int.add_mul_emod_self_left]
        exact this n (Nat.le_refl _)
      show (numB n v).foldl _ (u * 256 + v / 256 ^ n % 256) = _
      have hq : v / 256 ^ n % 256 = v / 256 ^ n := by
        have h2 : v / 256 ^ n < 256 := Int.ediv_lt_of_lt_mul hpos (by rw [hp] at h1; rw [Int.mul_comm]; exact h1)
        have h3 : 0 ≤ v / 256 ^ n := Int.ediv_nonneg h0 (by omega)
        omega
      rw [hrec, ih _ _ (Int.emod_nonneg _ (by omega)) (Int.emod_lt_of_pos _ hpos), hq, hp]
      have h2 := Int.mul_ediv_add_emod v (256 ^ n)
      rw [Int.add_mul, Int.mul_assoc, Int.mul_comm 256 (256 ^ n)]
      have h3 : v / 256 ^ n * 256 ^ n = 256 ^ n * (v / 256 ^ n) := Int.mul_comm ..
      omega
  intro n v h0 h1
  have := key n v 0 h0 h1
  rw [Int.zero_mul, Int.zero_add] at this
  exact this
theorem tkS_app {a : List Int} (b : Bool) (h : a.length = n) : tkS n (a ++ r, b) = (a, (r, b)) := by
  unfold tkS
  rw [if_neg (by simp only [List.length_append]; omega)]
  simp only
  rw [List.take_left' h, List.drop_left' h]
theorem numS_enc (b : Bool) (h0 : 0 ≤ v) (h1 : v < 256 ^ n) : numS n (numB n v ++ r, b) = (v, (r, b)) := by
  unfold numS
  rw [tkS_app b (numB_length n v), decB_numB n v h0 h1]
theorem fitsB_cons {l : List Int} : fitsB n (v :: l) = true ↔ (0 ≤ v ∧ v < 256 ^ n) ∧ fitsB n l = true := by
  unfold fitsB
  simp only [List.all_cons, Bool.and_eq_true, decide_eq_true_eq]
theorem numsB_cons {l : List Int} : numsB n (v :: l) = numB n v ++ numsB n l := rfl
theorem numsB_nil : numsB n [] = [] := rfl
theorem numsS {l : List Int} (h : fitsB n (v :: l) = true) : numS n (numsB n (v :: l) ++ r, false) = (v, (numsB n l ++ r, false)) := by
  rw [fitsB_cons] at h
  rw [numsB_cons, List.append_assoc]
  exact numS_enc false h.1.1 h.1.2
theorem fits_len {m : Nat} (h : m ≤ 255) : fitsB 1 [(m : Int)] = true := by
  rw [fitsB_cons]
  refine ⟨⟨by omega, ?_⟩, rfl⟩
  have : (256 : Int) ^ 1 = 256 := rfl
  omega
theorem loopS_enc {α : Type} {f : α → List Int} {p : α → Bool} {g : RS → α × RS} (hg : ∀ x r, p x = true → g (f x ++ r, false) = (x, (r, false))) : ∀ (l : List α) (r : List Int), l.all p = true → loopS g l.length (l.flatMap f ++ r, false) = (l, (r, false))
  | [], r, _ => rfl
  | x :: l, r, h => by
    rw [List.all_cons, Bool.and_eq_true] at h
    show (if false = true then _ else _) = _
    rw [if_neg (by decide), List.flatMap_cons, List.append_assoc, hg x _ h.1]
    simp only
    rw [loopS_enc hg l r h.2]
theorem readsS_enc {α : Type} {f : α → List Int} {p : α → Bool} {g : RS → α × RS} (hg : ∀ x r, p x = true → g (f x ++ r, false) = (x, (r, false))) (l : List α) (h : eachB p l = true) : readsS g (listB f l ++ r, false) = (l, (r, false)) := by
  unfold eachB at h
  simp only [Bool.and_eq_true, decide_eq_true_eq] at h
  unfold readsS listB
  rw [List.append_assoc, numsS (fits_len (by omega))]
  simp only [numsB_nil, List.nil_append, Int.toNat_natCast]
  exact loopS_enc hg l r h.2
theorem mvS_enc (m : PMv) (r : List Int) (h : mvMay m = true) : mvS (mvB m ++ r, false) = (m, (r, false)) := by
  unfold mvMay at h
  simp only [Bool.and_eq_true] at h
  have h1 := (fitsB_cons.1 h.1).2
  have h2 := (fitsB_cons.1 h.2).2
  unfold mvS mvB
  simp only [List.append_assoc, numsS h.1, numsS h.2, numsS h1, numsS h2, numsB_nil, List.nil_append]
theorem lvS_enc (x : PLv) (r : List Int) (h : lvMay x = true) : lvS (lvB x ++ r, false) = (x, (r, false)) := by
  unfold lvMay at h
  simp only [Bool.and_eq_true] at h
  have h2 := (fitsB_cons.1 h.2).2
  have h3 : fitsB 1 [bitB x.commit] = true := by cases x.commit <;> rfl
  unfold lvS lvB
  simp only [List.append_assoc, numsS h.1, numsS h.2, numsS h2, numsS h3, numsB_nil, List.nil_append]
  cases x with
  | mk a b c d => cases d <;> rfl
theorem dtS_enc (x : PDt) (r : List Int) (h : dtMay x = true) : dtS (dtB x ++ r, false) = (x, (r, false)) := by
  unfold dtMay at h
  simp only [Bool.and_eq_true] at h
  unfold dtS dtB
  simp only [List.append_assoc, numsS h.1, numsS h.2, numsB_nil, List.nil_append]
theorem opS_enc (x : POp) (r : List Int) (h : opMay x = true) : opS (opB x ++ r, false) = (x, (r, false)) := by
  unfold opMay at h
  simp only [Bool.and_eq_true] at h
  unfold opS opB
  simp only [List.append_assoc, numsS h.1.1, numsS h.1.2, numsB_nil, List.nil_append, readsS_enc mvS_enc x.moves h.2]
theorem imS_enc (b : List Int) (h : imgB b = true) : imS (imB b ++ r, false) = (b, (r, false)) := by
  unfold imgB at h
  simp only [Bool.or_eq_true, decide_eq_true_eq] at h
  unfold imS imB
  rw [List.append_assoc, numsS (fits_len (by omega))]
  simp only [numsB_nil, List.nil_append, Int.toNat_natCast]
  exact tkS_app false rfl
theorem decS_enc (e : PE) (h : e.may = true) (r : List Int) : decS (encB e ++ r, false) = (e, (r, false)) := by
  unfold PE.may at h
  simp only [Bool.and_eq_true] at h
  obtain ⟨⟨⟨⟨⟨⟨⟨⟨⟨⟨⟨⟨h1, h2⟩, h3⟩, h4⟩, h5⟩, h6⟩, h7⟩, h8⟩, h9⟩, h10⟩, h11⟩, h12⟩, h13⟩ := h
  have k1 : fitsB 1 [e.kind, e.txn] = true := by
    rw [fitsB_cons] at h3 ⊢
    refine ⟨⟨?_, ?_⟩, ?_⟩
    · have := of_decide_eq_true h1
      omega
    · have := of_decide_eq_true h2
      have h : (256 : Int) ^ 1 = 256 := rfl
      omega
    · rw [fitsB_cons]
      exact ⟨h3.1, rfl⟩
  have k2 := (fitsB_cons.1 k1).2
  have k3 := (fitsB_cons.1 h3).2
  have k5 := (fitsB_cons.1 h5).2
  have k6 := (fitsB_cons.1 h6).2
  have k7 := (fitsB_cons.1 h7).2
  unfold decS encB
  simp only [List.append_assoc, numsS k1, numsS k2, numsS h4, numsS k3, numsS h5, numsS k5, numsS h6, numsS k6, numsS h7, numsS k7, numsB_nil, List.nil_append, imS_enc e.old h8, imS_enc e.new h9, readsS_enc mvS_enc e.moves h10, readsS_enc lvS_enc e.lives h11, readsS_enc dtS_enc e.dirty h12]
  rw [readsS_enc opS_enc e.opens h13]
theorem takeE_enc (e : PE) (h : e.may = true) : takeE (encB e) = some e := by
  have := decS_enc e h []
  rw [List.append_nil] at this
  unfold takeE
  rw [this, if_pos ⟨rfl, h, rfl⟩]
theorem takeE_iff (b : List Int) (e : PE) : takeE b = some e ↔ e.may = true ∧ b = encB e := by
  constructor
  · intro h
    unfold takeE at h
    split at h
    · rename_i hc
      cases h
      exact ⟨hc.2.1, hc.2.2.symm⟩
    · cases h
  · rintro ⟨h, rfl⟩
    exact takeE_enc e h
end

/-- Lengths. -/
theorem fits_byt {n : Nat} {l : List Int} : Byt (numsB n l) := numsB_byt n l
theorem encB_short (e : PE) (h1 : e.moves = []) (h2 : e.lives = []) (h3 : e.dirty = []) (h4 : e.opens = []) : (encB e).length = 21 + e.old.length + e.new.length := by
  unfold encB listB imB
  rw [h1, h2, h3, h4]
  simp only [List.length_append, numsB_length, List.length_cons, List.length_nil, List.flatMap_nil]
  omega
theorem flat_le {α : Type} (f : α → List Int) (k : Nat) : ∀ (l : List α), (∀ x ∈ l, (f x).length ≤ k) → (l.flatMap f).length ≤ l.length * k
  | [], _ => by simp
  | x :: l, h => by
    have h1 := h x (by simp)
    have h2 := flat_le f k l fun y hy => h y (by simp [hy])
    rw [List.flatMap_cons, List.length_append, List.length_cons, Nat.add_mul]
    omega
theorem eachB_len {α : Type} {p : α → Bool} {l : List α} (h : eachB p l = true) : l.length ≤ 40 ∧ ∀ x ∈ l, p x = true := by
  unfold eachB at h
  simp only [Bool.and_eq_true, decide_eq_true_eq, List.all_eq_true] at h
  exact h
theorem listB_le {α : Type} {p : α → Bool} (f : α → List Int) (k : Nat) (l : List α) (h : eachB p l = true) (hf : ∀ x, p x = true → (f x).length ≤ k) : (listB f l).length ≤ 1 + 40 * k := by
  obtain ⟨h1, h2⟩ := eachB_len h
  have h3 := flat_le f k l fun x hx => hf x (h2 x hx)
  have h4 := Nat.mul_le_mul_right k h1
  unfold listB
  simp only [List.length_append, numsB_length, List.length_cons, List.length_nil]
  omega
theorem encB_le (e : PE) (h : e.may = true) : 1 ≤ (encB e).length ∧ (encB e).length ≤ 8000 := by
  unfold PE.may at h
  simp only [Bool.and_eq_true] at h
  obtain ⟨⟨⟨⟨⟨⟨⟨⟨⟨⟨⟨⟨h1, h2⟩, h3⟩, h4⟩, h5⟩, h6⟩, h7⟩, h8⟩, h9⟩, h10⟩, h11⟩, h12⟩, h13⟩ := h
  have m4 : ∀ x, mvMay x = true → (mvB x).length ≤ 4 := fun x _ => by simp [mvB, numsB_length]
  have a1 := listB_le mvB 4 e.moves h10 m4
  have a2 := listB_le lvB 8 e.lives h11 fun x _ => by simp [lvB, numsB_length]
  have a3 := listB_le dtB 4 e.dirty h12 fun x _ => by simp [dtB, numsB_length]
  have a4 := listB_le opB 164 e.opens h13 fun x hx => by
    unfold opMay at hx
    simp only [Bool.and_eq_true] at hx
    have := listB_le mvB 4 x.moves hx.2 m4
    simp only [opB, List.length_append, numsB_length, List.length_cons, List.length_nil]
    omega
  unfold imgB at h8 h9
  simp only [Bool.or_eq_true, decide_eq_true_eq] at h8 h9
  unfold encB imB
  simp only [List.length_append, numsB_length, List.length_cons, List.length_nil]
  omega
theorem flat_byt {α : Type} {f : α → List Int} {l : List α} (h : ∀ x ∈ l, Byt (f x)) : Byt (l.flatMap f) := fun z hz => by
  obtain ⟨x, hx, hz⟩ := List.mem_flatMap.1 hz
  exact h x hx z hz
theorem listB_byt {α : Type} {f : α → List Int} (l : List α) (h : ∀ x, Byt (f x)) : Byt (listB f l) := (numsB_byt _ _).append (flat_byt fun x _ => h x)
theorem mvB_byt (m : PMv) : Byt (mvB m) := (numsB_byt _ _).append (numsB_byt _ _)
theorem encB_byt (e : PE) (h1 : Byt e.old) (h2 : Byt e.new) : Byt (encB e) := by
  unfold encB imB
  repeat' (first | (with_reducible exact numsB_byt _ _) | assumption | with_reducible apply Byt.append)
  · exact listB_byt _ mvB_byt
  · exact listB_byt _ fun x => ((numsB_byt _ _).append (numsB_byt _ _)).append (numsB_byt _ _)
  · exact listB_byt _ fun x => (numsB_byt _ _).append (numsB_byt _ _)
  · exact listB_byt _ fun x => ((numsB_byt _ _).append (numsB_byt _ _)).append (listB_byt _ mvB_byt)

/-- A frame. -/
def frameB (e : PE) : List Int := numsB 2 [((encB e).length : Int)] ++ encB e ++ chkB (encB e)
theorem frameB_length (e : PE) : (frameB e).length = 4 + (encB e).length := by
  unfold frameB chkB
  simp only [List.length_append, numsB_length, List.length_cons, List.length_nil]
  omega
theorem chkB_byt (b : List Int) : Byt (chkB b) := fun z hz => by
  have h := sumB_range b (0, 0) (by decide) (by decide)
  unfold chkB at hz
  simp only [List.mem_cons, List.not_mem_nil, or_false] at hz
  rcases hz with rfl | rfl <;> omega
theorem frameB_byt (e : PE) (h1 : Byt e.old) (h2 : Byt e.new) : Byt (frameB e) := ((numsB_byt _ _).append (encB_byt e h1 h2)).append (chkB_byt _)

/-- The frame at the front: its entry, and how many bytes it has. -/
def firstB (b : List Int) : Option (PE × Nat) :=
  match b with
  | x :: y :: t =>
    let n := (x * 256 + y).toNat
    if t.length < n + 2 then none else if (t.drop n).take 2 = chkB (t.take n) then (takeE (t.take n)).map fun e => (e, n + 4) else none
  | _ => none
theorem firstB_cons (x y : Int) (t : List Int) : firstB (x :: y :: t) = if t.length < (x * 256 + y).toNat + 2 then none else if (t.drop (x * 256 + y).toNat).take 2 = chkB (t.take (x * 256 + y).toNat) then (takeE (t.take (x * 256 + y).toNat)).map fun e => (e, (x * 256 + y).toNat + 4) else none := rfl
theorem firstB_pos {b : List Int} {e : PE} {n : Nat} (h : firstB b = some (e, n)) : 4 ≤ n ∧ n ≤ b.length ∧ e.may = true := by
  unfold firstB at h
  split at h
  · rename_i x y t
    simp only at h
    split at h
    · cases h
    · split at h
      · rename_i h1 h2
        rw [Option.map_eq_some_iff] at h
        obtain ⟨e', he, hq⟩ := h
        cases hq
        exact ⟨by omega, by simp only [List.length_cons]; omega, ((takeE_iff _ _).1 he).1⟩
      · cases h
  · cases h
theorem numsB2 (v : Int) : numsB 2 [v] = [v / 256 % 256, v % 256] := by
  show [v / 256 ^ 1 % 256, v / 256 ^ 0 % 256] = _
  have e1 : (256 : Int) ^ 1 = 256 := rfl
  have e0 : (256 : Int) ^ 0 = 1 := rfl
  rw [e1, e0, Int.ediv_one]
theorem firstB_frame (e : PE) (h : e.may = true) (r : List Int) : firstB (frameB e ++ r) = some (e, (frameB e).length) := by
  have hl := encB_le e h
  have h2 : numsB 2 [((encB e).length : Int)] = [((encB e).length : Int) / 256, ((encB e).length : Int) % 256] := by
    rw [numsB2]
    have : ((encB e).length : Int) / 256 % 256 = ((encB e).length : Int) / 256 := by omega
    rw [this]
  rw [frameB_length]
  have hn : (((encB e).length : Int) / 256 * 256 + ((encB e).length : Int) % 256).toNat = (encB e).length := by omega
  unfold frameB
  rw [h2]
  have e1 : [((encB e).length : Int) / 256, ((encB e).length : Int) % 256] ++ encB e ++ chkB (encB e) ++ r = ((encB e).length : Int) / 256 :: ((encB e).length : Int) % 256 :: (encB e ++ (chkB (encB e) ++ r)) := by
    simp only [List.append_assoc, List.cons_append, List.nil_append]
  rw [e1, firstB_cons, hn]
  have hc : (chkB (encB e)).length = 2 := rfl
  rw [if_neg (by rw [List.length_append, List.length_append, hc]; omega), List.drop_left' rfl, List.take_left' rfl, List.take_left' hc, if_pos rfl, takeE_enc e h, Option.map_some, Nat.add_comm]
/-- A frame that is cut is none. -/
theorem firstB_cut (e : PE) (h : e.may = true) {k : Nat} (hk : k < (frameB e).length) : firstB ((frameB e).take k) = none := by
  cases hq : firstB ((frameB e).take k) with
  | none => rfl
  | some p =>
    obtain ⟨e', n⟩ := p
    exfalso
    have hp := firstB_pos hq
    have hlen := frameB_length e
    have hl := encB_le e h
    rw [List.length_take] at hp
    match hb : (frameB e).take k with
    | [] => rw [hb] at hq; cases hq
    | [_] => rw [hb] at hq; cases hq
    | x :: y :: t =>
      have hkl : ((frameB e).take k).length = k := by rw [List.length_take]; omega
      have hx : (frameB e)[0]? = some x ∧ (frameB e)[1]? = some y := by
        have h0 : ((frameB e).take k)[0]? = some x := by rw [hb]; rfl
        have h1 : ((frameB e).take k)[1]? = some y := by rw [hb]; rfl
        rw [hb] at hkl
        simp only [List.length_cons] at hkl
        rw [List.getElem?_take, if_pos (by omega)] at h0 h1
        exact ⟨h0, h1⟩
      have h0 : (frameB e)[0]? = some (((encB e).length : Int) / 256 ^ 1 % 256) := rfl
      have h1 : (frameB e)[1]? = some (((encB e).length : Int) / 256 ^ 0 % 256) := rfl
      rw [h0, h1] at hx
      have e1 : (256 : Int) ^ 1 = 256 := rfl
      have e0 : (256 : Int) ^ 0 = 1 := rfl
      rw [e1, e0] at hx
      have hx1 := Option.some.inj hx.1
      have hx2 := Option.some.inj hx.2
      have hn : (x * 256 + y).toNat = (encB e).length := by omega
      rw [hb] at hq hkl
      simp only [List.length_cons] at hkl
      unfold firstB at hq
      simp only [hn] at hq
      rw [if_pos (by omega)] at hq
      cases hq

/-- The entries of whole frames at the front, and how many bytes those have. -/
def scanB : Nat → List Int → List PE × Nat
  | 0, _ => ([], 0)
  | k + 1, b => match firstB b with
    | none => ([], 0)
    | some (e, n) => (e :: (scanB k (b.drop n)).1, n + (scanB k (b.drop n)).2)
theorem scanB_more : ∀ (k : Nat) (b : List Int), b.length < k → scanB (k + 1) b = scanB k b
  | 0, b, h => by omega
  | k + 1, b, h => by
    unfold scanB
    cases hf : firstB b with
    | none => rfl
    | some p =>
      obtain ⟨e, n⟩ := p
      have := firstB_pos hf
      simp only
      rw [scanB_more k (b.drop n) (by rw [List.length_drop]; omega)]
/-- All frames. -/
def streamB (l : List PE) : List Int := l.flatMap frameB
theorem streamB_append (a b : List PE) : streamB (a ++ b) = streamB a ++ streamB b := List.flatMap_append ..
theorem streamB_one (e : PE) : streamB [e] = frameB e := by simp [streamB]
theorem streamB_byt {l : List PE} (h : ∀ e ∈ l, Byt e.old ∧ Byt e.new) : Byt (streamB l) := flat_byt fun e he => frameB_byt e (h e he).1 (h e he).2
theorem scanB_stream {r : List Int} (hr : firstB r = none) : ∀ (l : List PE) (k : Nat), (∀ e ∈ l, e.may = true) → l.length < k → scanB k (streamB l ++ r) = (l, (streamB l).length)
  | [], k + 1, _, _ => by
    show scanB (k + 1) r = _
    unfold scanB
    rw [hr]
    rfl
  | e :: l, k + 1, h, hk => by
    have he : streamB (e :: l) = frameB e ++ streamB l := rfl
    unfold scanB
    rw [he, List.append_assoc, firstB_frame e (h e (by simp))]
    simp only
    rw [List.drop_left' rfl, scanB_stream hr l k (fun x hx => h x (by simp [hx])) (by simp at hk; omega), List.length_append]
theorem streamB_len (l : List PE) : l.length ≤ (streamB l).length := by
  induction l with
  | nil => simp
  | cons e l ih =>
    have he : streamB (e :: l) = frameB e ++ streamB l := rfl
    have := frameB_length e
    rw [he, List.length_append, List.length_cons]
    omega
theorem firstB_nil : firstB [] = none := rfl
/-- The first entries of a stream that is cut: some of them, and a frame that is cut behind. -/
theorem stream_cut : ∀ (l : List PE) (k : Nat), (∀ e ∈ l, e.may = true) → ∃ (m : Nat) (r : List Int), m ≤ l.length ∧ (streamB l).take k = streamB (l.take m) ++ r ∧ firstB r = none ∧ ∀ j, j ≤ l.length → (streamB (l.take j)).length ≤ k → j ≤ m
  | [], k, _ => ⟨0, [], Nat.le_refl _, by simp [streamB], rfl, fun j hj _ => hj⟩
  | e :: l, k, h => by
    have he : streamB (e :: l) = frameB e ++ streamB l := rfl
    by_cases hk : k < (frameB e).length
    · refine ⟨0, (frameB e).take k, Nat.zero_le _, ?_, firstB_cut e (h e (by simp)) hk, fun j hj hjk => ?_⟩
      · rw [he, List.take_append_of_le_length (by omega)]
        rfl
      · rcases j with _ | j
        · exact Nat.le_refl _
        · rw [List.take_succ_cons] at hjk
          have he2 : streamB (e :: l.take j) = frameB e ++ streamB (l.take j) := rfl
          rw [he2, List.length_append] at hjk
          omega
    · obtain ⟨m, r, h1, h2, h3, h4⟩ := stream_cut l (k - (frameB e).length) fun x hx => h x (by simp [hx])
      refine ⟨m + 1, r, by simp; omega, ?_, h3, fun j hj hjk => ?_⟩
      · rw [he, List.take_append, h2, List.take_of_length_le (by omega), List.take_succ_cons, ← List.append_assoc]
        rfl
      · rcases j with _ | j
        · omega
        · rw [List.take_succ_cons] at hjk
          have he2 : streamB (e :: l.take j) = frameB e ++ streamB (l.take j) := rfl
          rw [he2, List.length_append] at hjk
          have := h4 j (by simp at hj; omega) (by omega)
          omega
end Go.Proofs.YtojkggppcmdepaaGreat
