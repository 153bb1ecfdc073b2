/- Shape of a tree as it is held: what a round leaves, and the walk. Conditions: a tree in memory. -/
import Derived.Test.YtjmkfppnimengaaTreeSa
namespace Go.Proofs.Ytjmkfppnimengaa
open Go.RowKit Go.Wh

/-- How great and how small a tree may be. -/
theorem flat_most : ∀ (d : Nat) (x : Nd d), Fit d x → (flat d x).length ≤ x.length * 4 ^ d
  | 0, x, _ => by simp [flat]
  | d + 1, x, h => by
    induction x with
    | nil => simp [flat]
    | cons y x ih =>
      have h1 := h y (by simp)
      have h2 := flat_most d (nd y) h1.2.2.2
      have h3 := ih fun z hz => h z (by simp [hz])
      have h4 : (nd y).length * 4 ^ d ≤ 4 * 4 ^ d := Nat.mul_le_mul_right _ h1.2.1
      rw [flat_cons, List.length_append, List.length_cons, Nat.add_mul, Nat.one_mul, Nat.pow_succ, Nat.mul_comm (4 ^ d) 4]
      rw [Nat.pow_succ, Nat.mul_comm (4 ^ d) 4] at h3
      omega
theorem flat_least : ∀ (d : Nat) (x : Nd d), Fit d x → x.length * 2 ^ d ≤ (flat d x).length
  | 0, x, _ => by simp [flat]
  | d + 1, x, h => by
    induction x with
    | nil => simp [flat]
    | cons y x ih =>
      have h1 := h y (by simp)
      have h2 := flat_least d (nd y) h1.2.2.2
      have h3 := ih fun z hz => h z (by simp [hz])
      have h4 : 2 * 2 ^ d ≤ (nd y).length * 2 ^ d := Nat.mul_le_mul_right _ h1.1
      rw [flat_cons, List.length_append, List.length_cons, Nat.add_mul, Nat.one_mul, Nat.pow_succ, Nat.mul_comm (2 ^ d) 2]
      rw [Nat.pow_succ, Nat.mul_comm (2 ^ d) 2] at h3
      omega
theorem shp_length : ∀ (e : Nat) (us : List (Nd e)), (shp e us).length = e + 1
  | 0, _ => rfl
  | e + 1, us => by
    show (shp e (us.flatMap subs)).length + 1 = e + 1 + 1
    rw [shp_length e]
theorem good_depth {d : Nat} {x : Nd d} (h : Good d x) : d ≤ (flat d x).length := by
  rcases h.two with h0 | h0
  · omega
  · have h1 := flat_least d x h.fit
    have h2 : 2 * 2 ^ d ≤ x.length * 2 ^ d := Nat.mul_le_mul_right _ h0
    have h3 : d < 2 ^ d := Nat.lt_two_pow_self
    omega

def lenOf : Value → Nat
  | .slice _ n _ => n
  | _ => 0

structure ShO (w : World) (len : Nat) (total : List (List Nat)) (out lv : Value) (ss rest : List (List Nat)) (ps : List Value) (rs : List Nat) (wr : World) : Prop where
  sum : ss ++ rest = total
  still : Still w wr
  o : Vec wr 1 out ss.length ps
  oown : ∀ g, out.ownBlock = some g → w.heap.size ≤ g ∧ g < wr.heap.size
  rows : RowsAt wr w.heap.size ps ss (fun g => out.ownBlock ≠ some g)
  one : ∀ v ∈ ps, v.oneCell' = true
  lv : Vec wr 1 lv rs.length (pcells rs)
  lvl : Lv w.heap.size wr rs rest len
  small : rs.length ≤ len + 1

structure ShI (w1 : World) (sz : List Nat) (rss : List (List Nat)) (sv nv : Value) (j : Nat) (wr : World) : Prop where
  s : Vec wr 1 sv j (icells (sz.take j))
  n : Vec wr 1 nv (rss.take j).flatten.length (pcells (rss.take j).flatten)
  sown : ∀ g, sv.ownBlock = some g → w1.heap.size ≤ g ∧ g < wr.heap.size
  nown : ∀ g, nv.ownBlock = some g → w1.heap.size ≤ g ∧ g < wr.heap.size
  ap : ∀ g, sv.ownBlock = some g → nv.ownBlock ≠ some g
  still : Still w1 wr
  le : j ≤ sz.length

section
variable {w1 wr w2 w3 w4 : World} {sz : List Nat} {rss : List (List Nat)} {sv nv v' nv' : Value} {j n : Nat} {kids : List Nat}

theorem ShI.start (w1 : World) (sz : List Nat) (rss : List (List Nat)) : ShI w1 sz rss (.slice none 0 0) (.slice none 0 0) 0 w1 :=
  ⟨Vec.nil _ _, Vec.nil _ _, (by intro g h; cases h), (by intro g h; cases h), (by intro g h; cases h), Still.refl _, Nat.zero_le _⟩

theorem ShI.first (h : ShI w1 sz rss sv nv j wr) (hs : Still wr w2) (tt : TypeId) :
    Vec (w2.alloc (.cells #[.int .i64 (n : Int)] tt)) 1 sv j (icells (sz.take j)) ∧ Reads (w2.alloc (.cells #[.int .i64 (n : Int)] tt)) 1 (.slice (some ⟨w2.heap.size, 0, none⟩) 1 1) 1 [.int .i64 (n : Int)] :=
  ⟨(h.s.only hs fun _ _ e => e).alloc _, (cellsAt_new w2 [.int .i64 (n : Int)] tt).reads rfl⟩

theorem ShI.second (h : ShI w1 sz rss sv nv j wr) (hs : Still wr w2) {ob : Obj} (ho : Only (fun b => sv.ownBlock = some b) (w2.alloc ob) w3) : Still w1 w3 ∧ Vec w3 1 nv (rss.take j).flatten.length (pcells (rss.take j).flatten) := by
  have h1 : Still w1 (w2.alloc ob) := (h.still.trans hs).alloc ob
  refine ⟨⟨ho.os.trans h1.os, ho.tape.trans h1.tape, ho.output.trans h1.output, Nat.le_trans h1.size ho.size, fun i hi _ => (ho.block i (Nat.lt_of_lt_of_le hi h1.size) fun e => ?_).trans (h1.block i hi id)⟩, ((h.n.only hs fun _ _ e => e).alloc ob).only ho fun g hg e => h.ap g e hg⟩
  have := (h.sown i e).1
  omega

theorem ShI.third (h : ShI w1 sz rss sv nv j wr) (hs : Still wr w2) {ob : Obj} (hsz : sz[j]? = some n) (hk : rss[j]? = some kids) (hv' : Vec w3 1 v' (j + 1) (icells (sz.take j) ++ [.int .i64 (n : Int)])) (ho : Only (fun b => sv.ownBlock = some b) (w2.alloc ob) w3)
    (hb : v'.ownBlock = sv.ownBlock ∨ ∃ g, v'.ownBlock = some g ∧ (w2.alloc ob).heap.size ≤ g ∧ g < w3.heap.size)
    (hn' : Vec w4 1 nv' ((rss.take j).flatten.length + kids.length) (pcells (rss.take j).flatten ++ pcells kids)) (ho2 : Only (fun b => nv.ownBlock = some b) w3 w4)
    (hb2 : nv'.ownBlock = nv.ownBlock ∨ ∃ g, nv'.ownBlock = some g ∧ w3.heap.size ≤ g ∧ g < w4.heap.size) : ShI w1 sz rss v' nv' (j + 1) w4 := by
  have hst := (h.second hs ho).1
  have hz : w2.heap.size ≤ (w2.alloc ob).heap.size := by simp
  have z1 := h.still.size
  have z2 := hs.size
  have z3 := ho.size
  have z4 := ho2.size
  have e1 : sz.take (j + 1) = sz.take j ++ [n] := by rw [List.take_add_one, hsz]; rfl
  have e2 : (rss.take (j + 1)).flatten = (rss.take j).flatten ++ kids := by rw [List.take_add_one, hk, Option.toList_some, List.flatten_append]; simp
  have hv'n : ∀ g, v'.ownBlock = some g → nv.ownBlock ≠ some g := fun g hg e => by
    rcases hb with hb | ⟨g', h1, h2, h3⟩
    · exact h.ap g (hb ▸ hg) e
    · rw [h1] at hg
      injection hg with hg
      have := (h.nown g e).2
      omega
  have o1 : ∀ g, v'.ownBlock = some g → w1.heap.size ≤ g ∧ g < w3.heap.size := fun g hg => by
    rcases hb with hb | ⟨g', h1, h2, h3⟩
    · have := h.sown g (hb ▸ hg); omega
    · rw [h1] at hg
      injection hg with hg
      omega
  have o2 : ∀ g, nv'.ownBlock = some g → w1.heap.size ≤ g ∧ g < w4.heap.size := fun g hg => by
    rcases hb2 with hb2 | ⟨g', h1, h2, h3⟩
    · have := h.nown g (hb2 ▸ hg); omega
    · rw [h1] at hg
      injection hg with hg
      omega
  refine ⟨?_, ?_, fun g hg => by have := o1 g hg; omega, o2, fun g h1 h2 => ?_, ?_, ?_⟩
  · rw [e1, icells_append]
    exact hv'.only ho2 fun g hg e => hv'n g hg e
  · rw [e2, List.length_append]
    have : pcells ((rss.take j).flatten ++ kids) = pcells (rss.take j).flatten ++ pcells kids := List.map_append
    rw [this]
    exact hn'
  · rcases hb2 with hb2 | ⟨g', h3, h4, h5⟩
    · exact hv'n g h1 (hb2 ▸ h2)
    · rw [h3] at h2
      injection h2 with h2
      have := (o1 g h1).2
      omega
  · exact ⟨ho2.os.trans hst.os, ho2.tape.trans hst.tape, ho2.output.trans hst.output, Nat.le_trans hst.size ho2.size, fun i hi _ => (ho2.block i (Nat.lt_of_lt_of_le hi hst.size) fun e => by have := (h.nown i e).1; omega).trans (hst.block i hi id)⟩
  · exact (List.getElem?_eq_some_iff.1 hsz).1
end

/-- A round's end. -/
theorem ShO.next {w w1 wr w2 : World} {len : Nat} {total : List (List Nat)} {out lv out' : Value} {ss rest rest' : List (List Nat)} {ps : List Value} {rs sz : List Nat} {rss : List (List Nat)} {sv nv : Value} {tt : TypeId} (h : ShO w len total out lv ss rest ps rs w1) (hr : rest = sz :: rest')
    (hi : ShI w1 sz rss sv nv sz.length wr) (hl : rss.length = sz.length) (hlv : ∀ w', Only (fun b => w.heap.size ≤ b) w1 w' → Lv w.heap.size w' rss.flatten rest' len) (hsm : rss.flatten.length ≤ len)
    (hv : Vec w2 1 out' (ss.length + 1) (ps ++ [sv])) (ho : Only (fun b => out.ownBlock = some b) (wr.alloc (.cells #[sv] tt)) w2) (hb : out'.ownBlock = out.ownBlock ∨ ∃ g, out'.ownBlock = some g ∧ (wr.alloc (.cells #[sv] tt)).heap.size ≤ g ∧ g < w2.heap.size) :
    ShO w len total out' nv (ss ++ [sz]) rest' (ps ++ [sv]) rss.flatten w2 := by
  subst hr
  have z1 := h.still.size
  have z2 := hi.still.size
  have z3 : (wr.alloc (.cells #[sv] tt)).heap.size = wr.heap.size + 1 := by simp
  have z4 := ho.size
  have hst : Still w1 (wr.alloc (.cells #[sv] tt)) := hi.still.alloc _
  have hown : ∀ g, out.ownBlock = some g → g < w1.heap.size := fun g hg => (h.oown g hg).2
  have ho' : ∀ g, out'.ownBlock = some g → w.heap.size ≤ g ∧ g < w2.heap.size := fun g hg => by
    rcases hb with hb | ⟨g', h1, h2, h3⟩
    · have := h.oown g (hb ▸ hg); omega
    · rw [h1] at hg
      injection hg with hg
      omega
  have hsv : Vec wr 1 sv sz.length (icells sz) := by have := hi.s; rwa [List.take_length] at this
  have hnv : Vec wr 1 nv rss.flatten.length (pcells rss.flatten) := by have := hi.n; rwa [← hl, List.take_length] at this
  have hne : ∀ g, w1.heap.size ≤ g → g < wr.heap.size → out'.ownBlock ≠ some g := fun g h1 h2 e => by
    rcases hb with hb | ⟨g', h3, h4, h5⟩
    · have := hown g (hb ▸ e); omega
    · rw [h3] at e
      injection e with e
      omega
  refine ⟨by rw [← h.sum]; simp, ?_, by rw [List.length_append]; exact hv, ho', ?_, fun v hv' => ?_, ?_, hlv w2 ?_, by omega⟩
  · have h0 : Still w (wr.alloc (.cells #[sv] tt)) := h.still.trans hst
    exact ⟨ho.os.trans h0.os, ho.tape.trans h0.tape, ho.output.trans h0.output, Nat.le_trans h0.size ho.size, fun i hi' _ => (ho.block i (Nat.lt_of_lt_of_le hi' h0.size) fun e => by have := (h.oown i e).1; omega).trans (h0.block i hi' id)⟩
  · have hr1 : RowsAt (wr.alloc (.cells #[sv] tt)) w.heap.size ps ss (fun g => out.ownBlock ≠ some g ∧ g < w1.heap.size) := by
      refine RowsAt.only (S := fun _ => False) ?_ hst (fun _ _ e => e)
      exact h.rows.weaken fun g _ h1 h2 => ⟨h2, h1⟩
    have hr2 := hr1.only ho fun g h1 e => h1.1 e
    refine (hr2.weaken (R' := fun g => out'.ownBlock ≠ some g) fun g _ _ h2 e => ?_).more ?_ fun g hg => ⟨?_, ?_, ?_⟩
    · rcases hb with hb | ⟨g', h3, h4, h5⟩
      · exact h2.1 (hb ▸ e)
      · rw [h3] at e
        injection e with e
        have := h2.2
        omega
    · exact (hsv.alloc _).only ho fun g hg e => by have := (hi.sown g hg).1; have := hown g e; omega
    · have := (hi.sown g hg).1; omega
    · have := (hi.sown g hg).2; omega
    · exact hne g (hi.sown g hg).1 (hi.sown g hg).2
  · rcases List.mem_append.1 hv' with h1 | h1
    · exact h.one v h1
    · simp at h1
      obtain ⟨a, c, e⟩ := hsv.form'
      rw [h1, e]
      rfl
  · exact (hnv.alloc _).only ho fun g hg e => by have := (hi.nown g hg).1; have := hown g e; omega
  · exact (hst.only.trans (ho.mono fun b e => (h.oown b e).1))
end Go.Proofs.Ytjmkfppnimengaa
