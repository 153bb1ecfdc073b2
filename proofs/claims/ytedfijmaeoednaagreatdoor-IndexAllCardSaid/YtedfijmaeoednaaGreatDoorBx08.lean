/- A child that is too small is joined with its neighbour: the walk. Conditions: a node of children in memory. A region that draws its order, some of whose operations may come in many orders: what they leave is told by one relation, and each is looked at once. No conditions. Three concatenations that are laid in some order: what each leaves. Conditions: two nodes in memory. Joining two neighbours: what the node is in between, and two insertions that are laid in some order. Conditions: a node of children in memory. -/
import Derived.Test.YtedfijmaeoednaaGreatDoorBx07
namespace Go.Proofs.YtedfijmaeoednaaGreatDoor
open Go.RowKit Go.Wh

def JoinPost (d : Nat) (w : World) (r : Nat) (cs : List (Nd d)) (i : Nat) (F : List Nat) (e : Ending) (w' : World) : Prop :=
  ∃ ks' rs' F0' Fs', e = .returned (.tuple #[]) ∧ Inr d w' r ks' rs' rs' (joinC cs i) F0' Fs' ∧ ks'.length = (joinC cs i).length ∧ Only (fun b => b ∈ F) w w' ∧ ∀ b ∈ F0' ++ Fs'.flatten, b ∈ F ∨ w.heap.size ≤ b

theorem join_same {d : Nat} {w w' : World} {r : Nat} {ks : List Key} {rs : List Nat} {cs : List (Nd d)} {F0 : List Nat} {Fs : List (List Nat)} {i : Nat} (h : Inr d w r ks rs rs cs F0 Fs) (hk : ks.length = cs.length) (hc : 2 ≤ (at' cs i).length ∨ cs.length < 2) (hs : Still w w') :
    JoinPost d w r cs i (F0 ++ Fs.flatten) (.returned (.tuple #[])) w' := by
  have e : joinC cs i = cs := by unfold joinC; rw [if_pos hc]
  exact ⟨ks, rs, F0, Fs, rfl, by rw [e]; exact h.still hs, by rw [e]; exact hk, hs.only, fun b hb => .inl hb⟩

theorem at_split {d : Nat} (cs : List (Nd d)) (i : Nat) (hi : i < cs.length) : cs = cs.take i ++ ([at' cs i] ++ cs.drop (i + 1)) := by
  have : at' cs i = cs[i] := by unfold at'; rw [List.getElem?_eq_getElem hi]; rfl
  rw [this]
  conv => lhs; rw [← List.take_append_drop i cs, List.drop_eq_getElem_cons hi]
  rfl

/-- What the node's child i is. -/
theorem Inr.child {d : Nat} {w : World} {r : Nat} {ks : List Key} {qs rs : List Nat} {cs : List (Nd d)} {F0 : List Nat} {Fs : List (List Nat)} (h : Inr d w r ks qs rs cs F0 Fs) (i : Nat) (hi : i < cs.length) :
    ∃ ra q rb Fa f Fb, rs = ra ++ ([q] ++ rb) ∧ Fs = Fa ++ ([f] ++ Fb) ∧ ra.length = i ∧ Sons (At d w) ra (cs.take i) Fa ∧ At d w q (at' cs i) f ∧ Sons (At d w) rb (cs.drop (i + 1)) Fb ∧ rs[i]? = some q :=
  h.focus i (at_split cs i hi) (by rw [List.length_take]; omega)

theorem at_split2 {d : Nat} (cs : List (Nd d)) (j : Nat) (hj : j + 1 < cs.length) : cs = cs.take j ++ ([at' cs j, at' cs (j + 1)] ++ cs.drop (j + 2)) := by
  have h1 := at_split cs j (by omega)
  have h2 := at_split (cs.drop (j + 1)) 0 (by rw [List.length_drop]; omega)
  have h3 : at' (cs.drop (j + 1)) 0 = at' cs (j + 1) := by unfold at'; rw [List.getElem?_drop, Nat.add_zero]
  rw [h3, List.drop_drop] at h2
  conv => lhs; rw [h1, h2]
  simp

/-- What the node's children j and j + 1 are. -/
theorem Inr.pair {d : Nat} {w : World} {r : Nat} {ks : List Key} {qs rs : List Nat} {cs : List (Nd d)} {F0 : List Nat} {Fs : List (List Nat)} (h : Inr d w r ks qs rs cs F0 Fs) (j : Nat) (hj : j + 1 < cs.length) :
    ∃ ra a b rb Fa fa fb Fb, rs = ra ++ ([a, b] ++ rb) ∧ Fs = Fa ++ ([fa, fb] ++ Fb) ∧ ra.length = j ∧ Sons (At d w) ra (cs.take j) Fa ∧ At d w a (at' cs j) fa ∧ At d w b (at' cs (j + 1)) fb ∧ Sons (At d w) rb (cs.drop (j + 2)) Fb ∧ rs[j]? = some a ∧ rs[j + 1]? = some b := by
  have hk := h.kids
  rw [at_split2 cs j hj] at hk
  obtain ⟨ra, rx, Fa, fx, rfl, rfl, h1, h2⟩ := hk.part
  obtain ⟨rm, rb, fm, fb, rfl, rfl, h3, h4⟩ := h2.part
  have hl : ra.length = j := by rw [h1.lenR, List.length_take]; omega
  cases h3 with
  | cons h5 h6 =>
    obtain ⟨q, f, rfl, rfl, h7⟩ := h6.get1
    exact ⟨ra, _, q, rb, Fa, _, f, fb, rfl, rfl, hl, h1, h5, h7, h4, by rw [List.getElem?_append_right (by omega), hl, Nat.sub_self]; rfl, by rw [List.getElem?_append_right (by omega), hl, Nat.add_sub_cancel_left]; rfl⟩

set_option maxHeartbeats 1000000 in
set_option maxRecDepth 100000 in
theorem join_rest (d : Nat) (w : World) (r : Nat) (ks : List Key) (rs : List Nat) (cs : List (Nd d)) (F0 : List Nat) (Fs : List (List Nat)) (i : Nat) (h : Inr d w r ks rs rs cs F0 Fs) (hk : ks.length = cs.length) (hi : i < cs.length) (h90 : cs.length ≤ 90) (hc : 2 ≤ (at' cs i).length ∨ cs.length < 2) :
    Calls Tryz.prog 65 #[ptr r, .int .i64 i] w (JoinPost d w r cs i (F0 ++ Fs.flatten)) := by
  have hlen : rs.length = cs.length := h.kids.lenR
  obtain ⟨n, hn⟩ : ∃ n, cs.length = n := ⟨_, rfl⟩
  obtain ⟨ra, q, rb, Fa, f, Fb, _, _, _, _, hq, _, hrq⟩ := h.child i hi
  obtain ⟨g2, o2, p2, k0, k1⟩ := h.raw.kids (by omega)
  have k2 : w.cell? ⟨g2, o2 + i, none⟩ = some (.pointer (some ⟨q, 0, none⟩)) := k1 i q hrq
  rw [hlen, hn] at k0
  obtain ⟨vs0, cs0, G, hr0, hmx, _, _⟩ := hq.raw
  obtain ⟨m, hm⟩ : ∃ m, (at' cs i).length = m := ⟨_, rfl⟩
  have HZ := Lib.hid (fun w' (hs : Still w w') => size_any w' q (keys (at' cs i)) vs0 cs0 G (hr0.still hs))
  rw [hmx, hm] at HZ
  have FIN := Lib.hid (fun w' (hs : Still w w') => join_same h hk hc hs)
  have KC := Lib.hid (fun w' (hs : Still w w') => (hs.cell (p := ⟨r, 2, none⟩) k0))
  have b0 : (0 : Int) ≤ (i : Int) := by omega
  have b1 : (i : Int) < (n : Int) := by omega
  have b2 : 0 < n := by omega
  have HC := Lib.hid hc
  have HN := Lib.hid hn
  rw [hm, hn] at HC
  by_cases hm2 : 2 ≤ m
  · have t1 : decide ((m : Int) ≥ 2) = true := by simp; omega
    have t2 : decide (2 ≤ (m : Int)) = true := by simp; omega
    clear h hk hi h90 hc hlen hn hq hrq k1 hr0 hmx hm hm2
    unfold ptr at HZ ⊢
    go_enter Tryz.func65, Tryz.ntmps65
    go_wp2_with fail
    (with_reducible refine (HZ.out _ (Still.refl _)).mono ?_)
    rintro e w1 ⟨rfl, hs1⟩
    have F := Lib.hid (FIN.out _ hs1)
    clear hs1
    go_wp2_with fail
    refine bodyPost_ret (results_none rfl _ _ _) rfl ?_
    exact F.out
  · have hn2 : n < 2 := by omega
    have t1 : decide ((m : Int) ≥ 2) = false := by simp; omega
    have t2 : decide (2 ≤ (m : Int)) = false := by simp; omega
    have t3 : decide ((n : Int) < 2) = true := by simp; omega
    clear h hk hi h90 hc hlen hn hq hrq k1 hr0 hmx hm hm2 hn2
    unfold ptr at HZ ⊢
    go_enter Tryz.func65, Tryz.ntmps65
    go_wp2_with fail
    (with_reducible refine (HZ.out _ (Still.refl _)).mono ?_)
    rintro e w1 ⟨rfl, hs1⟩
    have F := Lib.hid (FIN.out _ hs1)
    have k3 := Still.cell hs1 k0
    clear hs1
    go_wp2_with fail
    refine bodyPost_ret (results_none rfl _ _ _) rfl ?_
    exact F.out

/-- What the concatenation asks and leaves. -/
def CatPost (W : World) (a : Nat) (ks : List Key) (vs : List Rid) (cs : List Nat) (Ga : List Nat) (W' : World) : Prop :=
  ∃ Ga', Raw W' a ks vs cs Ga' ∧ Only (fun b => b ∈ Ga) W W' ∧ ∀ b ∈ Ga', b ∈ Ga ∨ W.heap.size ≤ b

theorem cat_calls {W : World} {a b : Nat} {ka va ca kb vb cb : Value} {ks ks' : List Key} {vs vs' : List Rid} {cs cs' : List Nat} (ha : NodeAt W a ka va ca ks vs cs) (hb : NodeAt W b kb vb cb ks' vs' cs')
    (l1 : ks.length ≤ 1000) (l2 : vs.length ≤ 1000) (l3 : cs.length ≤ 1000) (m1 : ks'.length ≤ 1000) (m2 : vs'.length ≤ 1000) (m3 : cs'.length ≤ 1000) :
    (∀ w', Still W w' → ∀ x, cellsAt w' x [ka, kb] → Calls Tryz.prog 84 #[.slice (some ⟨x, 0, none⟩) 2 2] w' fun e w2 => ∃ p c, e = .returned (.slice p (ks.length + ks'.length) c) ∧ Fre w' w2 1 (ks.length + ks'.length) (.slice p (ks.length + ks'.length) c) (kcells (ks ++ ks')) ∧ Still W w') ∧
    (∀ w', Still W w' → ∀ x, cellsAt w' x [va, vb] → Calls Tryz.prog 88 #[.slice (some ⟨x, 0, none⟩) 2 2] w' fun e w2 => ∃ p c, e = .returned (.slice p (vs.length + vs'.length) c) ∧ Fre w' w2 2 (vs.length + vs'.length) (.slice p (vs.length + vs'.length) c) (rcells (vs ++ vs')) ∧ Still W w') ∧
    (∀ w', Still W w' → ∀ x, cellsAt w' x [ca, cb] → Calls Tryz.prog 89 #[.slice (some ⟨x, 0, none⟩) 2 2] w' fun e w2 => ∃ p c, e = .returned (.slice p (cs.length + cs'.length) c) ∧ Fre w' w2 1 (cs.length + cs'.length) (.slice p (cs.length + cs'.length) c) (pcells (cs ++ cs')) ∧ Still W w') ∧
    (∀ w', Still W w' → w'.cell? ⟨a, 0, none⟩ = some ka ∧ w'.cell? ⟨a, 1, none⟩ = some va ∧ w'.cell? ⟨a, 2, none⟩ = some ca ∧ w'.cell? ⟨b, 0, none⟩ = some kb ∧ w'.cell? ⟨b, 1, none⟩ = some vb ∧ w'.cell? ⟨b, 2, none⟩ = some cb) ∧
    (∀ w', Still W w' → w'.frozen? ⟨a, 0, none⟩ = false ∧ w'.frozen? ⟨a, 1, none⟩ = false ∧ w'.frozen? ⟨a, 2, none⟩ = false) := by
  refine ⟨fun w' hs x hx => ?_, fun w' hs x hx => ?_, fun w' hs x hx => ?_, fun w' hs => ?_, fun w' hs => ?_⟩
  · refine (concat_s x ka kb ks.length ks'.length (kcells ks) (kcells ks') w' hx (ha.k.only hs fun _ _ e => e).reads (hb.k.only hs fun _ _ e => e).reads (kcells_one _) (kcells_one _) (by omega) (by omega)).mono fun e w2 h => ?_
    obtain ⟨p, c, h1, h2⟩ := fre_of h
    exact ⟨p, c, h1, by unfold kcells at h2 ⊢; rw [List.map_append]; exact h2, hs⟩
  · refine (concat_r x va vb vs.length vs'.length (rcells vs) (rcells vs') w' hx (ha.v.only hs fun _ _ e => e).reads (hb.v.only hs fun _ _ e => e).reads (rcells_one _) (rcells_one _) (by omega) (by omega)).mono fun e w2 h => ?_
    obtain ⟨p, c, h1, h2⟩ := fre_of h
    exact ⟨p, c, h1, by rw [rcells_append]; exact h2, hs⟩
  · refine (concat_n x ca cb cs.length cs'.length (pcells cs) (pcells cs') w' hx (ha.c.only hs fun _ _ e => e).reads (hb.c.only hs fun _ _ e => e).reads (pcells_one _) (pcells_one _) (by omega) (by omega)).mono fun e w2 h => ?_
    obtain ⟨p, c, h1, h2⟩ := fre_of h
    exact ⟨p, c, h1, by unfold pcells at h2 ⊢; rw [List.map_append]; exact h2, hs⟩
  · exact ⟨Still.cell hs (ha.cells.cell 0), Still.cell hs (ha.cells.cell 1), Still.cell hs (ha.cells.cell 2), Still.cell hs (hb.cells.cell 0), Still.cell hs (hb.cells.cell 1), Still.cell hs (hb.cells.cell 2)⟩
  · exact ⟨(cellsAt.still hs ha.cells).free 0, (cellsAt.still hs ha.cells).free 1, (cellsAt.still hs ha.cells).free 2⟩
end Go.Proofs.YtedfijmaeoednaaGreatDoor

namespace Go.Wh

/-- One more. -/
def upN {α : Type} (f : Nat → α) (i : Nat) (v : α) : Nat → α := fun j => if j = i then v else f j
/-- The slots of some operations (their numbers, their slots) filled. -/
def fillA (B : List (Nat × Nat)) (xs : Nat → Value) (a : Act) : Act := B.foldl (fun a p => a.put (some p.2) (xs p.1)) a
def lst (listed : Array Bool) : Nat → Bool := fun j => listed.getD j false

theorem put_put (a : Act) (t : Nat) (u v : Value) : (a.put (some t) u).put (some t) v = a.put (some t) v := by
  simp [Act.put]

theorem fillA_cons (p : Nat × Nat) (B : List (Nat × Nat)) (xs : Nat → Value) (a : Act) : fillA (p :: B) xs a = fillA B xs (a.put (some p.2) (xs p.1)) := rfl

theorem fillA_comm {t : Nat} : ∀ {B : List (Nat × Nat)} (xs : Nat → Value) (a : Act) (v : Value), (∀ p ∈ B, p.2 ≠ t) → (fillA B xs a).put (some t) v = fillA B xs (a.put (some t) v)
  | [], _, _, _, _ => rfl
  | p :: B, xs, a, v, h => by
    rw [fillA_cons, fillA_cons, fillA_comm xs _ v (fun q hq => h q (by simp [hq])), Act.put_comm a (x := some p.2) (y := some t) (xs p.1) v (fun d hd e => h p (by simp) (by cases hd; cases e; rfl))]

theorem fillA_congr : ∀ {B : List (Nat × Nat)} {xs ys : Nat → Value} (a : Act), (∀ p ∈ B, xs p.1 = ys p.1) → fillA B xs a = fillA B ys a
  | [], _, _, _, _ => rfl
  | p :: B, xs, ys, a, h => by
    rw [fillA_cons, fillA_cons, h p (by simp)]
    exact fillA_congr _ fun q hq => h q (by simp [hq])

/-- Numbers and slots are all unlike. -/
def apartB : List (Nat × Nat) → Bool
  | [] => true
  | p :: B => B.all (fun q => q.1 != p.1 && q.2 != p.2) && apartB B

theorem fillA_put {i t : Nat} : ∀ {B : List (Nat × Nat)} (xs : Nat → Value) (a : Act) (v : Value), apartB B = true → (i, t) ∈ B → (fillA B xs a).put (some t) v = fillA B (upN xs i v) a
  | [], _, _, _, _, h => by cases h
  | p :: B, xs, a, v, hn, h => by
    simp only [apartB, Bool.and_eq_true, List.all_eq_true, bne_iff_ne] at hn
    rcases List.mem_cons.1 h with rfl | h
    · rw [fillA_cons, fillA_cons, fillA_comm xs _ v (fun q hq => (hn.1 q hq).2), put_put]
      have e : upN xs i v i = v := by simp [upN]
      rw [e]
      exact fillA_congr _ fun q hq => by simp [upN, (hn.1 q hq).1]
    · rw [fillA_cons, fillA_cons, fillA_put xs _ v hn.2 h]
      have e : upN xs i v p.1 = xs p.1 := by
        have := (hn.1 _ h).1
        simp only at this
        simp [upN, Ne.symm this]
      rw [e]

theorem put_same {a : Act} {t : Nat} : a.put (some t) (a.tmps.getD t undef) = a := by
  cases a with
  | mk tmps defers =>
    simp only [Act.put, Act.mk.injEq, and_true]
    apply Array.ext (by simp)
    intro j h1 h2
    rw [Array.getElem_setIfInBounds]
    split
    · subst_vars
      rw [Array.getD_eq_getD_getElem?, Array.getElem?_eq_getElem h2]
      rfl
    · rfl

theorem fillA_same (a : Act) : ∀ (B : List (Nat × Nat)) {xs : Nat → Value}, (∀ p ∈ B, xs p.1 = a.tmps.getD p.2 undef) → fillA B xs a = a
  | [], _, _ => rfl
  | p :: B, xs, h => by
    rw [fillA_cons, h p (by simp), put_same]
    exact fillA_same a B fun q hq => h q (by simp [hq])

/-- In whatever order: only these come, each behind what it asks for, and then they are all listed. -/
def okM (md : Region.Mode) (ops : Array Oper) (B : List Nat) (dep : Nat → List Nat) (fin : Array Bool) : Nat → Array Bool → Bool
  | 0, listed => listed == fin
  | f + 1, listed => !(Region.ready md ops listed).isEmpty && (Region.ready md ops listed).all fun i => B.contains i && (dep i).all (fun j => listed.getD j false) && okM md ops B dep fin f (listed.setIfInBounds i true)

section
variable {P : Program} {ops : Array Oper} {Q : Exit → Act → World → Prop} {md : Region.Mode} {S : World → Prop} {D : Nat → Bool}

theorem lst_set {listed : Array Bool} {i : Nat} (h : listed.getD i true = false) : lst (listed.setIfInBounds i true) = upN (lst listed) i true := by
  funext j
  unfold lst upN
  have hi : i < listed.size := by
    rcases Nat.lt_or_ge i listed.size with h' | h'
    · exact h'
    · simp [Array.getElem?_eq_none h'] at h
  by_cases hj : j = i
  · subst hj
    simp [hi]
  · rw [if_neg hj]
    simp [Array.getElem?_setIfInBounds_ne (Ne.symm hj)]

/-- What is shown of one operation. -/
def StepM (P : Program) (ops : Array Oper) (Q : Exit → Act → World → Prop) (J : (Nat → Bool) → (Nat → Value) → World → Prop) (B : List (Nat × Nat)) (dep : Nat → List Nat) (a : Act) (i t : Nat) : Prop :=
  ∀ (L : Nat → Bool) (xs : Nat → Value) (w : World), (∀ j ∈ dep i, L j = true) → L i = false → J L xs w → wpOp P ops Q i (fun a' w' => ∃ v, a' = (fillA B xs a).put (some t) v ∧ J (upN L i true) (upN xs i v) w') (fillA B xs a) w

theorem StepM.of {J : (Nat → Bool) → (Nat → Value) → World → Prop} {B : List (Nat × Nat)} {dep : Nat → List Nat} {a : Act} {i t : Nat} {o : Oper} (ho : ops[i]? = some o)
    (h : ∀ (L : Nat → Bool) (xs : Nat → Value) (w : World), (∀ j ∈ dep i, L j = true) → L i = false → J L xs w → ∀ K' : Act → World → Prop, Shut (∀ v w', J (upN L i true) (upN xs i v) w' → ∀ a', a' = (fillA B xs a).put (some t) v → K' a' w') →
      if Region.wanted o (yielded ops (fillA B xs a).tmps) = true then Oper.wp P o (fillA B xs a) w K' Q else K' ((fillA B xs a).put o.dst undef) w) : StepM P ops Q J B dep a i t :=
  fun L xs w hd hl hj => wpOp_step ho fun K' hK => h L xs w hd hl hj K' fun v w' hJ a' ha => hK a' w' ⟨v, ha, hJ⟩

theorem wpAnyD_merge {J : (Nat → Bool) → (Nat → Value) → World → Prop} {B : List (Nat × Nat)} {dep : Nat → List Nat} {a : Act} {fin : Array Bool} {fuel : Nat} (hB : apartB B = true) (hS : ∀ L xs w, J L xs w → S w)
    (step : ∀ p ∈ B, StepM P ops Q J B dep a p.1 p.2) (tail : ∀ xs w, J (lst fin) xs w → wpAnyD P md ops Q S D fuel fin (fillA B xs a) w) :
    ∀ (f : Nat) (listed : Array Bool) (xs : Nat → Value) (w : World), okM md ops (B.map (·.1)) dep fin f listed = true → J (lst listed) xs w → wpAnyD P md ops Q S D (fuel + f) listed (fillA B xs a) w
  | 0, listed, xs, w, hok, hJ => by
    have : listed = fin := by simpa [okM] using hok
    subst this
    exact tail xs w hJ
  | f + 1, listed, xs, w, hok, hJ => by
    simp only [okM, Bool.and_eq_true, List.all_eq_true] at hok
    refine ⟨fun h => ?_, fun i hi => ?_⟩
    · rw [h] at hok
      simp at hok
    · obtain ⟨⟨h1, h2⟩, h3⟩ := hok.2 i hi
      obtain ⟨p, hp, hpi⟩ := List.mem_map.1 (List.contains_iff_mem.1 h1)
      obtain ⟨i', t⟩ := p
      subst hpi
      have hl0 := (mem_ready.1 hi).1
      have hl : lst listed i' = false := by
        unfold lst
        rcases Nat.lt_or_ge i' listed.size with h' | h'
        · simp [h'] at hl0 ⊢; exact hl0
        · simp [Array.getElem?_eq_none h'] at hl0
      refine wpOp_mono ?_ (step _ hp (lst listed) xs w (fun j hj => h2 j hj) hl hJ)
      rintro a' w' ⟨v, rfl, hJ'⟩
      rw [fillA_put xs a v hB hp]
      refine ⟨fun _ => hS _ _ _ hJ', wpAnyD_merge hB hS step tail f _ _ _ h3 ?_⟩
      rw [lst_set hl0]
      exact hJ'

/-- The way in: what the slots have at the beginning does not matter. -/
theorem wpAnyD_merged {J : (Nat → Bool) → (Nat → Value) → World → Prop} (B : List (Nat × Nat)) (dep : Nat → List Nat) (fin : Array Bool) {a : Act} {w : World} {fuel n : Nat} {listed : Array Bool} (hn : n = fuel + B.length) (hB : apartB B = true) (hok : okM md ops (B.map (·.1)) dep fin B.length listed = true)
    (hS : ∀ L xs w, J L xs w → S w) (hJ : ∀ xs, J (lst listed) xs w) (step : ∀ p ∈ B, StepM P ops Q J B dep a p.1 p.2) (tail : ∀ xs w, J (lst fin) xs w → wpAnyD P md ops Q S D fuel fin (fillA B xs a) w) : wpAnyD P md ops Q S D n listed a w := by
  subst hn
  have hx : ∃ xs : Nat → Value, ∀ p ∈ B, xs p.1 = a.tmps.getD p.2 undef := by
    clear hok step tail hJ
    induction B with
    | nil => exact ⟨fun _ => undef, fun _ h => by cases h⟩
    | cons p B ih =>
      simp only [apartB, Bool.and_eq_true, List.all_eq_true, bne_iff_ne] at hB
      obtain ⟨xs, hx⟩ := ih hB.2
      refine ⟨upN xs p.1 (a.tmps.getD p.2 undef), fun q hq => ?_⟩
      rcases List.mem_cons.1 hq with rfl | hq
      · simp [upN]
      · simp [upN, (hB.1 q hq).1, hx q hq]
  obtain ⟨xs, hx⟩ := hx
  have h := wpAnyD_merge hB hS step tail B.length listed xs w hok (hJ xs)
  rwa [fillA_same a B hx] at h
end
end Go.Wh

namespace Go.Proofs.YtedfijmaeoednaaGreatDoor
open Go.RowKit Go.Wh

/-- Two slices in a block of their own. -/
def Bx (w : World) (v : Value) (l : List Value) : Prop := ∃ g, v = .slice (some ⟨g, 0, none⟩) 2 2 ∧ cellsAt w g l
/-- A slice in new blocks. -/
def Sx (W w : World) (size n : Nat) (v : Value) (xs : List Value) : Prop := (∃ p c, v = .slice p n c) ∧ Vec w size v n xs ∧ ∀ g, v.ownBlock = some g → W.heap.size ≤ g ∧ g < w.heap.size
def Ap (u v : Value) : Prop := ∀ g, u.ownBlock = some g → v.ownBlock ≠ some g

theorem Bx.still {w w' : World} {v : Value} {l : List Value} (h : Bx w v l) (hs : Still w w') : Bx w' v l := by
  obtain ⟨g, h1, h2⟩ := h
  exact ⟨g, h1, cellsAt.still hs h2⟩
theorem Bx.new (w : World) (l : List Value) (t : TypeId) : Bx (w.alloc (.cells l.toArray t)) (.slice (some ⟨w.heap.size, 0, none⟩) 2 2) l := ⟨_, rfl, cellsAt_new w l t⟩
theorem Sx.still {W w w' : World} {size n : Nat} {v : Value} {xs : List Value} (h : Sx W w size n v xs) (hs : Still w w') : Sx W w' size n v xs :=
  ⟨h.1, h.2.1.only hs fun _ _ e => e, fun g hg => ⟨(h.2.2 g hg).1, Nat.lt_of_lt_of_le (h.2.2 g hg).2 hs.size⟩⟩
theorem Sx.of {W w w2 : World} {size n : Nat} {p : Option Addr} {c : Nat} {xs : List Value} (hw : Still W w) (h : Fre w w2 size n (.slice p n c) xs) : Sx W w2 size n (.slice p n c) xs :=
  ⟨⟨p, c, rfl⟩, h.vec, fun g hg => ⟨Nat.le_trans hw.size (h.own g hg).1, (h.own g hg).2⟩⟩
theorem Ap.of {W w w2 : World} {size n m size' : Nat} {u v : Value} {xs ys : List Value} (hu : Sx W w size' m u ys) (h : Fre w w2 size n v xs) : Ap u v := fun g hg e => by
  have := (hu.2.2 g hg).2
  have := (h.own g e).1
  omega

/-- What is there behind some of the six. -/
structure CatJ (W : World) (lk lv lc : List Value) (nk nv nc : Nat) (ks vs cs : List Value) (L : Nat → Bool) (xs : Nat → Value) (w : World) : Prop where
  s : Still W w
  b1 : L 11 = true → Bx w (xs 11) lk
  b2 : L 21 = true → Bx w (xs 21) lv
  b3 : L 31 = true → Bx w (xs 31) lc
  c1 : L 12 = true → Sx W w 1 nk (xs 12) ks
  c2 : L 22 = true → L 12 = true ∧ Sx W w 2 nv (xs 22) vs ∧ Ap (xs 12) (xs 22)
  c3 : L 32 = true → L 12 = true ∧ L 22 = true ∧ Sx W w 1 nc (xs 32) cs ∧ Ap (xs 12) (xs 32) ∧ Ap (xs 22) (xs 32)

section
variable {W w w' : World} {lk lv lc : List Value} {nk nv nc : Nat} {ks vs cs : List Value} {L : Nat → Bool} {xs : Nat → Value}

theorem CatJ.mono (h : CatJ W lk lv lc nk nv nc ks vs cs L xs w) (hs : Still w w') : CatJ W lk lv lc nk nv nc ks vs cs L xs w' :=
  ⟨h.s.trans hs, fun e => (h.b1 e).still hs, fun e => (h.b2 e).still hs, fun e => (h.b3 e).still hs, fun e => (h.c1 e).still hs, fun e => ⟨(h.c2 e).1, (h.c2 e).2.1.still hs, (h.c2 e).2.2⟩,
    fun e => ⟨(h.c3 e).1, (h.c3 e).2.1, (h.c3 e).2.2.1.still hs, (h.c3 e).2.2.2⟩⟩

theorem CatJ.start (hs : Still W w) (hl : ∀ j ∈ [11, 12, 21, 22, 31, 32], L j = false) : CatJ W lk lv lc nk nv nc ks vs cs L xs w := by
  refine ⟨hs, fun e => ?_, fun e => ?_, fun e => ?_, fun e => ?_, fun e => ?_, fun e => ?_⟩
  · rw [hl 11 (by simp)] at e; cases e
  · rw [hl 21 (by simp)] at e; cases e
  · rw [hl 31 (by simp)] at e; cases e
  · rw [hl 12 (by simp)] at e; cases e
  · rw [hl 22 (by simp)] at e; cases e
  · rw [hl 32 (by simp)] at e; cases e

theorem CatJ.b1' (h : CatJ W lk lv lc nk nv nc ks vs cs L xs w) (t : TypeId) : CatJ W lk lv lc nk nv nc ks vs cs (upN L 11 true) (upN xs 11 (.slice (some ⟨w.heap.size, 0, none⟩) 2 2)) (w.alloc (.cells lk.toArray t)) := by
  obtain ⟨s, b1, b2, b3, c1, c2, c3⟩ := h.mono ((Still.refl w).alloc (.cells lk.toArray t))
  exact ⟨s, fun _ => Bx.new w lk t, b2, b3, c1, c2, c3⟩
theorem CatJ.b2' (h : CatJ W lk lv lc nk nv nc ks vs cs L xs w) (t : TypeId) : CatJ W lk lv lc nk nv nc ks vs cs (upN L 21 true) (upN xs 21 (.slice (some ⟨w.heap.size, 0, none⟩) 2 2)) (w.alloc (.cells lv.toArray t)) := by
  obtain ⟨s, b1, b2, b3, c1, c2, c3⟩ := h.mono ((Still.refl w).alloc (.cells lv.toArray t))
  exact ⟨s, b1, fun _ => Bx.new w lv t, b3, c1, c2, c3⟩
theorem CatJ.b3' (h : CatJ W lk lv lc nk nv nc ks vs cs L xs w) (t : TypeId) : CatJ W lk lv lc nk nv nc ks vs cs (upN L 31 true) (upN xs 31 (.slice (some ⟨w.heap.size, 0, none⟩) 2 2)) (w.alloc (.cells lc.toArray t)) := by
  obtain ⟨s, b1, b2, b3, c1, c2, c3⟩ := h.mono ((Still.refl w).alloc (.cells lc.toArray t))
  exact ⟨s, b1, b2, fun _ => Bx.new w lc t, c1, c2, c3⟩
theorem CatJ.c1' (h : CatJ W lk lv lc nk nv nc ks vs cs L xs w) (h0 : L 12 = false) {p : Option Addr} {c : Nat} (hf : Fre w w' 1 nk (.slice p nk c) ks) : CatJ W lk lv lc nk nv nc ks vs cs (upN L 12 true) (upN xs 12 (.slice p nk c)) w' := by
  have hx := Sx.of h.s hf
  obtain ⟨s, b1, b2, b3, c1, c2, c3⟩ := h.mono hf.still
  exact ⟨s, b1, b2, b3, fun _ => hx, fun e => (by have := (c2 e).1; rw [h0] at this; cases this), fun e => (by have := (c3 e).1; rw [h0] at this; cases this)⟩
theorem CatJ.c2' (h : CatJ W lk lv lc nk nv nc ks vs cs L xs w) (h0 : L 22 = false) (h1 : L 12 = true) {p : Option Addr} {c : Nat} (hf : Fre w w' 2 nv (.slice p nv c) vs) : CatJ W lk lv lc nk nv nc ks vs cs (upN L 22 true) (upN xs 22 (.slice p nv c)) w' := by
  have hx := Sx.of h.s hf
  have ha := Ap.of (h.c1 h1) hf
  obtain ⟨s, b1, b2, b3, c1, c2, c3⟩ := h.mono hf.still
  exact ⟨s, b1, b2, b3, c1, fun _ => ⟨h1, hx, ha⟩, fun e => (by have := (c3 e).2.1; rw [h0] at this; cases this)⟩
theorem CatJ.c3' (h : CatJ W lk lv lc nk nv nc ks vs cs L xs w) (h1 : L 12 = true) (h2 : L 22 = true) {p : Option Addr} {c : Nat} (hf : Fre w w' 1 nc (.slice p nc c) cs) : CatJ W lk lv lc nk nv nc ks vs cs (upN L 32 true) (upN xs 32 (.slice p nc c)) w' := by
  have hx := Sx.of h.s hf
  have ha := Ap.of (h.c1 h1) hf
  have hb := Ap.of (h.c2 h2).2.1 hf
  obtain ⟨s, b1, b2, b3, c1, c2, c3⟩ := h.mono hf.still
  exact ⟨s, b1, b2, b3, c1, c2, fun _ => ⟨h1, h2, hx, ha, hb⟩⟩
end

/-- Three new slices are stored. -/
theorem cat_end {W w3 : World} {r n m p : Nat} {kv vv cv v1 v2 v3 : Value} {ks ks' : List Key} {vs vs' : List Rid} {cs cs' F : List Nat} (hn : NodeAt W r kv vv cv ks vs cs) (hF : F = foot r kv vv cv ∧ F.Nodup ∧ ∀ b ∈ F, b < W.heap.size) (hs : Still W w3)
    (K : Sx W w3 1 n v1 (kcells ks')) (V : Sx W w3 2 m v2 (rcells vs')) (C : Sx W w3 1 p v3 (pcells cs')) (a12 : Ap v1 v2) (a13 : Ap v1 v3) (a23 : Ap v2 v3) (h1 : n = ks'.length) (h2 : m = vs'.length) (h3 : p = cs'.length) :
    CatPost W r ks' vs' cs' F (((w3.setCell ⟨r, 0, none⟩ v1).setCell ⟨r, 1, none⟩ v2).setCell ⟨r, 2, none⟩ v3) := by
  subst h1 h2 h3
  have hr : r < W.heap.size := hF.2.2 r (hF.1 ▸ mem_foot.2 (.inl rfl))
  have o1 := K.2.2
  have o2 := V.2.2
  have o3 := C.2.2
  have q1 : v1.ownBlock ≠ some r := fun e => by have := o1 r e; omega
  have q2 : v2.ownBlock ≠ some r := fun e => by have := o2 r e; omega
  have q3 : v3.ownBlock ≠ some r := fun e => by have := o3 r e; omega
  have c3 : cellsAt w3 r [kv, vv, cv] := hn.cells.only hs fun e => e
  have c4 : cellsAt (((w3.setCell ⟨r, 0, none⟩ v1).setCell ⟨r, 1, none⟩ v2).setCell ⟨r, 2, none⟩ v3) r [v1, v2, v3] := ((c3.setCell 0 v1).setCell 1 v2).setCell 2 v3
  have hrF : r ∈ F := hF.1 ▸ mem_foot.2 (.inl rfl)
  have ho : Only (fun b => b ∈ F) W (((w3.setCell ⟨r, 0, none⟩ v1).setCell ⟨r, 1, none⟩ v2).setCell ⟨r, 2, none⟩ v3) := ((hs.only.setCell (p := ⟨r, 0, none⟩) (.inl hrF) v1).setCell (p := ⟨r, 1, none⟩) (.inl hrF) v2).setCell (p := ⟨r, 2, none⟩) (.inl hrF) v3
  have hz : (((w3.setCell ⟨r, 0, none⟩ v1).setCell ⟨r, 1, none⟩ v2).setCell ⟨r, 2, none⟩ v3).heap.size = w3.heap.size := by simp [World.setCell]
  have hA' : Apt r v1 v2 v3 :=
    ⟨fun b hb e => by subst e; exact q1 hb, fun b hb e => by subst e; exact q2 hb, fun b hb e => by subst e; exact q3 hb, a12, a13, a23⟩
  refine ⟨_, Raw.of ⟨c4, vec_set (vec_set (vec_set K.2.1 (p := ⟨r, 0, none⟩) q1 _) (p := ⟨r, 1, none⟩) q1 _) (p := ⟨r, 2, none⟩) q1 _, vec_set (vec_set (vec_set V.2.1 (p := ⟨r, 0, none⟩) q2 _) (p := ⟨r, 1, none⟩) q2 _) (p := ⟨r, 2, none⟩) q2 _,
    vec_set (vec_set (vec_set C.2.1 (p := ⟨r, 0, none⟩) q3 _) (p := ⟨r, 1, none⟩) q3 _) (p := ⟨r, 2, none⟩) q3 _⟩ hA' fun b hb => ?_, ho, fun b hb => ?_⟩
  · rw [hz]
    have := hs.size
    rcases mem_foot.1 hb with rfl | h | h | h
    · omega
    · exact (o1 b h).2
    · exact (o2 b h).2
    · exact (o3 b h).2
  · rcases mem_foot.1 hb with rfl | h | h | h
    · exact .inl hrF
    · exact .inr (o1 b h).1
    · exact .inr (o2 b h).1
    · exact .inr (o3 b h).1
end Go.Proofs.YtedfijmaeoednaaGreatDoor

namespace Go.Proofs.YtedfijmaeoednaaGreatDoor
open Go.RowKit Go.Wh

section
variable {d : Nat} {W w wc w3 w4 w5 : World} {r a b y j n : Nat} {ks ks' : List Key} {rs qa qb ra rb : List Nat} {cs A B : List (Nd d)} {c c1 c2 : Nd d} {F0 fa fb F' f F1 F2 F : List Nat} {Fs Ga Gb Fa Fb : List (List Nat)}

theorem join_cat (h : Inr d W r ks rs rs cs F0 Fs) (hj : j + 1 < cs.length) (hrs : rs = qa ++ ([a, b] ++ qb)) (hFs : Fs = Ga ++ ([fa, fb] ++ Gb)) (sa : Sons (At d W) qa (cs.take j) Ga) (sb : Sons (At d W) qb (cs.drop (j + 2)) Gb)
    (hat : At d wc a (at' cs j ++ at' cs (j + 1)) F') (ho : Only (fun x => x ∈ fa) W wc) (hs : ∀ x ∈ F', x ∈ fa ++ fb ∨ W.heap.size ≤ x) :
    Inr d wc r ks rs (qa ++ ([a] ++ qb)) (cs.take j ++ ([at' cs j ++ at' cs (j + 1)] ++ cs.drop (j + 2))) F0 (Ga ++ ([F'] ++ Gb)) := by
  subst hrs hFs
  have h1 : Inr d W r ks (qa ++ ([a, b] ++ qb)) (qa ++ ([a, b] ++ qb)) (cs.take j ++ ([at' cs j, at' cs (j + 1)] ++ cs.drop (j + 2))) F0 (Ga ++ ([fa, fb] ++ Gb)) := by
    rw [← at_split2 cs j hj]
    exact h
  exact h1.turn sa sb (Sons.one hat) (by simpa using hat.nodup) (ho.mono fun x hx => by simp [hx]) (fun x hx => by
    have hx' : x ∈ F' := by simpa using hx
    simpa using hs x hx')

/-- Behind the deletion. -/
def JoinMid (d : Nat) (w : World) (r : Nat) (cs : List (Nd d)) (j a n : Nat) (F : List Nat) (w4 : World) : Prop :=
  ∃ ks' rs' F0' Fs', ks'.length = n - 1 ∧ rs'[j]? = some a ∧ Inr d w4 r ks' rs' rs' (cs.take j ++ ([at' cs j ++ at' cs (j + 1)] ++ cs.drop (j + 2))) F0' Fs' ∧ Only (fun b => b ∈ F) w w4 ∧ ∀ b ∈ F0' ++ Fs'.flatten, b ∈ F ∨ w.heap.size ≤ b

theorem join_del {v : Value} {e : Ending} (h : Inr d wc r ks (qa ++ ([a, b] ++ qb)) (qa ++ ([a] ++ qb)) (cs.take j ++ ([at' cs j ++ at' cs (j + 1)] ++ cs.drop (j + 2))) F0 (Ga ++ ([F'] ++ Gb))) (hq : qa.length = j) (hk : ks.length = n) (hjn : j + 1 < n)
    (hp : RawPost wc r (ks.take (j + 1) ++ ks.drop (j + 1 + 1)) [] ((qa ++ ([a, b] ++ qb)).take (j + 1) ++ (qa ++ ([a, b] ++ qb)).drop (j + 1 + 1)) F0 v e w4)
    (hw : Still w W) (hF : F = F0 ++ (Ga ++ ([fa, fb] ++ Gb)).flatten) (ho : Only (fun x => x ∈ fa) W wc) (hs : ∀ x ∈ F', x ∈ fa ++ fb ∨ W.heap.size ≤ x) : JoinMid d w r cs j a n F w4 := by
  obtain ⟨F0', _, hr, ho', hf'⟩ := hp
  have e1 : (qa ++ ([a, b] ++ qb)).take (j + 1) ++ (qa ++ ([a, b] ++ qb)).drop (j + 1 + 1) = qa ++ ([a] ++ qb) := by
    have e2 : qa ++ ([a, b] ++ qb) = (qa ++ [a]) ++ ([b] ++ qb) := by simp
    have e3 : qa ++ ([a, b] ++ qb) = (qa ++ [a, b]) ++ qb := by simp
    rw [show (qa ++ ([a, b] ++ qb)).take (j + 1) = qa ++ [a] by rw [e2]; exact List.take_left' (by simp [hq]), show (qa ++ ([a, b] ++ qb)).drop (j + 1 + 1) = qb by rw [e3]; exact List.drop_left' (by simp [hq])]
    simp
  rw [e1] at hr
  have h4 := h.rawTurn hr ho' hf'
  have hww := Nat.le_trans hw.size ho.size
  refine ⟨_, _, F0', _, by simp; omega, by rw [List.getElem?_append_right (by omega), hq, Nat.sub_self]; rfl, h4, ?_, fun x hx => ?_⟩
  · subst hF
    exact ((hw.only.trans (ho.mono fun x hx => by simp [hx])).andThen ho' fun x _ hx => by simp [hx])
  · subst hF
    simp only [List.flatten_append, List.flatten_cons, List.flatten_nil, List.append_nil, List.mem_append] at hx hs ⊢
    rcases hx with hx | hx | hx | hx
    · rcases hf' x hx with h | h
      · exact .inl (.inl h)
      · exact .inr (Nat.le_trans hww h)
    · exact .inl (.inr (.inl hx))
    · rcases hs x hx with h | h
      · exact .inl (.inr (.inr (.inl h)))
      · exact .inr (Nat.le_trans hw.size h)
    · exact .inl (.inr (.inr (.inr hx)))

theorem join_small {i : Nat} {e : Ending} (h : JoinMid d w r cs j a n F w4) (hc : ¬ (2 ≤ (at' cs i).length ∨ cs.length < 2)) (hij : i - 1 = j) (hn : cs.length = n) (hjn : j + 1 < n) (h4 : (at' cs j ++ at' cs (j + 1)).length ≤ 4) (he : e = .returned (.tuple #[])) (hs : Still w4 w5) : JoinPost d w r cs i F e w5 := by
  obtain ⟨ks', rs', F0', Fs', hk, _, hin, ho, hf⟩ := h
  have ej : joinC cs i = cs.take j ++ ([at' cs j ++ at' cs (j + 1)] ++ cs.drop (j + 2)) := by
    unfold joinC halves
    rw [if_neg hc, hij, if_pos h4]
  refine ⟨ks', rs', F0', Fs', he, by rw [ej]; exact hin.still hs, ?_, ho.trans hs.only, hf⟩
  rw [ej, hk]
  simp
  omega

theorem join_split (h : Inr d w4 r ks' (ra ++ ([a] ++ rb)) (ra ++ ([a] ++ rb)) (A ++ ([c] ++ B)) F0 (Fa ++ ([f] ++ Fb))) (sa : Sons (At d w4) ra A Fa) (sb : Sons (At d w4) rb B Fb)
    (h1 : At d w3 a c1 F1) (h2 : At d w3 y c2 F2) (ho : Only (fun b => b ∈ f) w4 w3) (hn : (F1 ++ F2).Nodup) (hf : ∀ b ∈ F1 ++ F2, b ∈ f ∨ w4.heap.size ≤ b) :
    Inr d w3 r ks' (ra ++ ([a] ++ rb)) (ra ++ ([a, y] ++ rb)) (A ++ ([c1, c2] ++ B)) F0 (Fa ++ ([F1, F2] ++ Fb)) :=
  h.turn sa sb (Sons.cons h1 (Sons.one h2)) (by simpa using hn) (ho.mono fun x hx => by simp [hx]) (fun x hx => by
    have hx' : x ∈ F1 ++ F2 := by simpa using hx
    simpa using hf x hx')

theorem join_great {i : Nat} {e : Ending} {v : Value} {k : Key} (h : Inr d w3 r ks' (ra ++ ([a] ++ rb)) (ra ++ ([a, y] ++ rb)) (cs.take j ++ ([c1, c2] ++ cs.drop (j + 2))) F0 (Fa ++ ([F1, F2] ++ Fb))) (hra : ra.length = j) (hk : ks'.length = n - 1)
    (hp : RawPost w3 r (ks'.take (j + 1) ++ k :: ks'.drop (j + 1)) [] ((ra ++ ([a] ++ rb)).take (j + 1) ++ y :: (ra ++ ([a] ++ rb)).drop (j + 1)) F0 v e w5) (he : e = .returned (.tuple #[]))
    (hc : ¬ (2 ≤ (at' cs i).length ∨ cs.length < 2)) (hij : i - 1 = j) (hn : cs.length = n) (hjn : j + 1 < n) (hh : halves (at' cs j ++ at' cs (j + 1)) = [c1, c2])
    (ho : Only (fun b => b ∈ F) w w4) (hfs : ∀ b ∈ F0 ++ (Fa ++ ([f] ++ Fb)).flatten, b ∈ F ∨ w.heap.size ≤ b) (ho3 : Only (fun b => b ∈ f) w4 w3) (hf3 : ∀ b ∈ F1 ++ F2, b ∈ f ∨ w4.heap.size ≤ b) : JoinPost d w r cs i F e w5 := by
  obtain ⟨F0', _, hr, ho', hf'⟩ := hp
  have e1 : (ra ++ ([a] ++ rb)).take (j + 1) ++ y :: (ra ++ ([a] ++ rb)).drop (j + 1) = ra ++ ([a, y] ++ rb) := by
    rw [← List.append_assoc, List.take_left' (by simp [hra]), List.drop_left' (by simp [hra])]
    simp
  rw [e1] at hr
  have h4 := h.rawTurn hr ho' hf'
  have ej : joinC cs i = cs.take j ++ ([c1, c2] ++ cs.drop (j + 2)) := by
    unfold joinC
    rw [if_neg hc, hij, hh]
  have hWw : w.heap.size ≤ w3.heap.size := Nat.le_trans ho.size ho3.size
  have hall : ∀ b, b ∈ f → b ∈ F ∨ w.heap.size ≤ b := fun b hb => hfs b (by simp [hb])
  have h0 : ∀ b, b ∈ F0 → b ∈ F ∨ w.heap.size ≤ b := fun b hb => hfs b (by simp [hb])
  refine ⟨_, _, F0', _, he, by rw [ej]; exact h4, ?_, ?_, fun b hb => ?_⟩
  · rw [ej]
    simp
    omega
  · refine (ho.andThen ho3 fun b hb hb' => ?_).andThen ho' fun b hb hb' => ?_
    · rcases hall b hb' with h | h
      · exact h
      · omega
    · rcases h0 b hb' with h | h
      · exact h
      · omega
  · simp only [List.flatten_append, List.flatten_cons, List.flatten_nil, List.append_nil, List.mem_append] at hb
    rcases hb with hb | hb | (hb | hb) | hb
    · rcases hf' b hb with h | h
      · exact h0 b h
      · exact .inr (Nat.le_trans hWw h)
    · exact hfs b (by simp only [List.flatten_append, List.mem_append]; exact .inr (.inl hb))
    · rcases hf3 b (by simp [hb]) with h | h
      · exact hall b h
      · exact .inr (Nat.le_trans ho.size h)
    · rcases hf3 b (by simp [hb]) with h | h
      · exact hall b h
      · exact .inr (Nat.le_trans ho.size h)
    · exact hfs b (by simp only [List.flatten_append, List.mem_append]; exact .inr (.inr (.inr hb)))
end

/-- Two insertions, each behind its built row, in whatever order. -/
structure InsJ (W : World) (kv cv : Value) (n : Nat) (ks cs : List Value) (yk yp : Value) (L : Nat → Bool) (xs : Nat → Value) (w : World) : Prop where
  all : Only (fun b => (False ∨ kv.ownBlock = some b) ∨ cv.ownBlock = some b) W w
  b1 : L 14 = true → ∃ g, xs 14 = .slice (some ⟨g, 0, none⟩) 1 1 ∧ cellsAt w g [yk] ∧ W.heap.size ≤ g
  b2 : L 23 = true → ∃ g, xs 23 = .slice (some ⟨g, 0, none⟩) 1 1 ∧ cellsAt w g [yp] ∧ W.heap.size ≤ g
  o0 : L 15 = false → Still W w ∧ L 24 = false
  o1 : L 15 = true → L 24 = false → ∃ w0 w1 p c, xs 15 = .slice p (n + 1) c ∧ Turn W (fun _ => False) 1 (n + 1) kv ks (.slice p (n + 1) c) w0 w1 ∧ Still w1 w
  o2 : L 24 = true → L 14 = true ∧ L 23 = true ∧ ∃ w0 w1 w2 p c q e, xs 15 = .slice p (n + 1) c ∧ xs 24 = .slice q (n + 1) e ∧ Turn W (fun _ => False) 1 (n + 1) kv ks (.slice p (n + 1) c) w0 w1 ∧ Still w1 w2 ∧ Turn W (fun b => False ∨ kv.ownBlock = some b) 1 (n + 1) cv cs (.slice q (n + 1) e) w2 w

section
variable {W w w' : World} {kv cv : Value} {n : Nat} {ks cs : List Value} {yk yp : Value} {L : Nat → Bool} {xs : Nat → Value}
theorem InsJ.start (hs : Still W w) (hl : ∀ j ∈ [14, 15, 23, 24], L j = false) : InsJ W kv cv n ks cs yk yp L xs w := by
  refine ⟨hs.only, fun e => ?_, fun e => ?_, fun _ => ⟨hs, hl 24 (by simp)⟩, fun e => ?_, fun e => ?_⟩
  · rw [hl 14 (by simp)] at e; cases e
  · rw [hl 23 (by simp)] at e; cases e
  · rw [hl 15 (by simp)] at e; cases e
  · rw [hl 24 (by simp)] at e; cases e
theorem InsJ.b1' (h : InsJ W kv cv n ks cs yk yp L xs w) (h0 : L 14 = false) (t : TypeId) : InsJ W kv cv n ks cs yk yp (upN L 14 true) (upN xs 14 (.slice (some ⟨w.heap.size, 0, none⟩) 1 1)) (w.alloc (.cells #[yk] t)) := by
  obtain ⟨all, b1, b2, o0, o1, o2⟩ := h
  refine ⟨all.alloc _, fun _ => ⟨_, rfl, cellsAt_new w [yk] t, all.size⟩, fun e => ?_, fun e => ⟨(o0 e).1.alloc _, (o0 e).2⟩, fun e e' => ?_, fun e => ?_⟩
  · obtain ⟨g, h1, h2, h3⟩ := b2 e
    exact ⟨g, h1, h2.alloc _, h3⟩
  · obtain ⟨w0, w1, p, c, h1, h2, h3⟩ := o1 e e'
    exact ⟨w0, w1, p, c, h1, h2, h3.alloc _⟩
  · have := (o2 e).1
    rw [h0] at this
    cases this
theorem InsJ.b2' (h : InsJ W kv cv n ks cs yk yp L xs w) (h0 : L 23 = false) (t : TypeId) : InsJ W kv cv n ks cs yk yp (upN L 23 true) (upN xs 23 (.slice (some ⟨w.heap.size, 0, none⟩) 1 1)) (w.alloc (.cells #[yp] t)) := by
  obtain ⟨all, b1, b2, o0, o1, o2⟩ := h
  refine ⟨all.alloc _, fun e => ?_, fun _ => ⟨_, rfl, cellsAt_new w [yp] t, all.size⟩, fun e => ⟨(o0 e).1.alloc _, (o0 e).2⟩, fun e e' => ?_, fun e => ?_⟩
  · obtain ⟨g, h1, h2, h3⟩ := b1 e
    exact ⟨g, h1, h2.alloc _, h3⟩
  · obtain ⟨w0, w1, p, c, h1, h2, h3⟩ := o1 e e'
    exact ⟨w0, w1, p, c, h1, h2, h3.alloc _⟩
  · have := (o2 e).2.1
    rw [h0] at this
    cases this
theorem InsJ.c1' (h : InsJ W kv cv n ks cs yk yp L xs w) (h0 : L 15 = false) {p : Option Addr} {c : Nat} (T : Turn W (fun _ => False) 1 (n + 1) kv ks (.slice p (n + 1) c) w w') : InsJ W kv cv n ks cs yk yp (upN L 15 true) (upN xs 15 (.slice p (n + 1) c)) w' := by
  obtain ⟨all, b1, b2, o0, o1, o2⟩ := h
  refine ⟨T.only.mono fun _ e => .inl e, fun e => ?_, fun e => ?_, fun e => (by cases e), fun _ _ => ⟨w, w', p, c, rfl, T, Still.refl _⟩, fun e => ?_⟩
  · obtain ⟨g, h1, h2, h3⟩ := b1 e
    exact ⟨g, h1, T.keep _ _ h3 h2, h3⟩
  · obtain ⟨g, h1, h2, h3⟩ := b2 e
    exact ⟨g, h1, T.keep _ _ h3 h2, h3⟩
  · have h1 : L 24 = true := e
    rw [(o0 h0).2] at h1
    cases h1
theorem InsJ.c2' (h : InsJ W kv cv n ks cs yk yp L xs w) (h0 : L 24 = false) (h15 : L 15 = true) (h14 : L 14 = true) (h23 : L 23 = true) {p : Option Addr} {c : Nat} (T : Turn W (fun b => False ∨ kv.ownBlock = some b) 1 (n + 1) cv cs (.slice p (n + 1) c) w w') : InsJ W kv cv n ks cs yk yp (upN L 24 true) (upN xs 24 (.slice p (n + 1) c)) w' := by
  obtain ⟨all, b1, b2, o0, o1, o2⟩ := h
  refine ⟨T.only, fun e => ?_, fun e => ?_, fun e => ?_, fun _ e => (by cases e), fun _ => ⟨h14, h23, ?_⟩⟩
  · obtain ⟨g, h1, h2, h3⟩ := b1 e
    exact ⟨g, h1, T.keep _ _ h3 h2, h3⟩
  · obtain ⟨g, h1, h2, h3⟩ := b2 e
    exact ⟨g, h1, T.keep _ _ h3 h2, h3⟩
  · have h1 : L 15 = false := e
    rw [h15] at h1
    cases h1
  · obtain ⟨w0, w1, q, e, h1, h2, h3⟩ := o1 h15 h0
    exact ⟨w0, w1, w, q, e, p, c, h1, rfl, h2, h3, T⟩
end

/-- The same with the arguments as they are written. -/
theorem del2c' {W : World} {r n kc cc j : Nat} {ka ca : Option Addr} {uv : Value} {ks : List Key} {vs : List Rid} {cs F : List Nat} (hn : NodeAt W r (.slice ka n kc) uv (.slice ca n cc) ks vs cs) (hF : F = foot r (.slice ka n kc) uv (.slice ca n cc) ∧ F.Nodup ∧ ∀ b ∈ F, b < W.heap.size)
    (hk : ks.length = n) (hc : cs.length = n) (h100 : n ≤ 1000) (hj : j + 1 < n) :
    (∀ w', Only (fun _ => False) W w' → Calls Tryz.prog 60 #[.slice ka n kc, .int .i64 ((j : Int) + 1), .int .i64 ((j : Int) + 2)] w' fun e w2 =>
      ∃ a c, e = .returned (.slice a (n - 1) c) ∧ Turn W (fun _ => False) 1 (n - 1) (.slice ka n kc) (kcells (ks.take (j + 1) ++ ks.drop (j + 1 + 1))) (.slice a (n - 1) c) w' w2) ∧
    (∀ w', Only (fun b => False ∨ (Value.slice ka n kc).ownBlock = some b) W w' → Calls Tryz.prog 90 #[.slice ca n cc, .int .i64 ((j : Int) + 1), .int .i64 ((j : Int) + 2)] w' fun e w2 =>
      ∃ a c, e = .returned (.slice a (n - 1) c) ∧ Turn W (fun b => False ∨ (Value.slice ka n kc).ownBlock = some b) 1 (n - 1) (.slice ca n cc) (pcells (cs.take (j + 1) ++ cs.drop (j + 1 + 1))) (.slice a (n - 1) c) w' w2) ∧
    (∀ w', Only (fun b => (False ∨ (Value.slice ka n kc).ownBlock = some b) ∨ (Value.slice ca n cc).ownBlock = some b) W w' → w'.cell? ⟨r, 0, none⟩ = some (.slice ka n kc) ∧ w'.cell? ⟨r, 2, none⟩ = some (.slice ca n cc) ∧ w'.frozen? ⟨r, 0, none⟩ = false ∧ w'.frozen? ⟨r, 2, none⟩ = false) := by
  have h := del2c (j := j + 1) hn hF hk hc h100 hj
  have e1 : ((j + 1 : Nat) : Int) = (j : Int) + 1 := by omega
  have e2 : (j : Int) + 1 + 1 = (j : Int) + 2 := by omega
  rw [e1, e2] at h
  exact h
end Go.Proofs.YtedfijmaeoednaaGreatDoor
