/- A child that is too small is joined with its neighbour: the walk. Conditions: a node of children in memory. -/
import Derived.Test.YtjmkfppnimengaaTreeQ
import Derived.Test.YtjmkfppnimengaaTreeCs
import Derived.Test.YtjmkfppnimengaaTreeCr
import Derived.Test.YtjmkfppnimengaaTreeCn
namespace Go.Proofs.Ytjmkfppnimengaa
open Go.RowKit Go.Wh

def JoinPost (d : Nat) (w : World) (r : Nat) (cs : List (Nd d)) (i : Nat) (F : List Nat) (e : Ending) (w' : World) : Prop :=
  ∃ ks' rs' F0' Fs', e = .returned (.tuple #[]) ∧ Inr d w' r ks' rs' rs' (joinC cs i) F0' Fs' ∧ ks'.length = (joinC cs i).length ∧ Only (fun b => b ∈ F) w w' ∧ ∀ b ∈ F0' ++ Fs'.flatten, b ∈ F ∨ w.heap.size ≤ b

theorem join_same {d : Nat} {w w' : World} {r : Nat} {ks : List Key} {rs : List Nat} {cs : List (Nd d)} {F0 : List Nat} {Fs : List (List Nat)} {i : Nat} (h : Inr d w r ks rs rs cs F0 Fs) (hk : ks.length = cs.length) (hc : 2 ≤ (at' cs i).length ∨ cs.length < 2) (hs : Still w w') :
    JoinPost d w r cs i (F0 ++ Fs.flatten) (.returned (.tuple #[])) w' := by
  have e : joinC cs i = cs := by unfold joinC; rw [if_pos hc]
  exact ⟨ks, rs, F0, Fs, rfl, by rw [e]; exact h.still hs, by rw [e]; exact hk, hs.only, fun b hb => .inl hb⟩

theorem at_split {d : Nat} (cs : List (Nd d)) (i : Nat) (hi : i < cs.length) : cs = cs.take i ++ ([at' cs i] ++ cs.drop (i + 1)) := by
  have : at' cs i = cs[i] := by unfold at'; rw [List.getElem?_eq_getElem hi]; rfl
  rw [this]
  conv => lhs; rw [← List.take_append_drop i cs, List.drop_eq_getElem_cons hi]
  rfl

/-- What the node's child i is. -/
theorem Inr.child {d : Nat} {w : World} {r : Nat} {ks : List Key} {qs rs : List Nat} {cs : List (Nd d)} {F0 : List Nat} {Fs : List (List Nat)} (h : Inr d w r ks qs rs cs F0 Fs) (i : Nat) (hi : i < cs.length) :
    ∃ ra q rb Fa f Fb, rs = ra ++ ([q] ++ rb) ∧ Fs = Fa ++ ([f] ++ Fb) ∧ ra.length = i ∧ Sons (At d w) ra (cs.take i) Fa ∧ At d w q (at' cs i) f ∧ Sons (At d w) rb (cs.drop (i + 1)) Fb ∧ rs[i]? = some q :=
  h.focus i (at_split cs i hi) (by rw [List.length_take]; omega)

theorem at_split2 {d : Nat} (cs : List (Nd d)) (j : Nat) (hj : j + 1 < cs.length) : cs = cs.take j ++ ([at' cs j, at' cs (j + 1)] ++ cs.drop (j + 2)) := by
  have h1 := at_split cs j (by omega)
  have h2 := at_split (cs.drop (j + 1)) 0 (by rw [List.length_drop]; omega)
  have h3 : at' (cs.drop (j + 1)) 0 = at' cs (j + 1) := by unfold at'; rw [List.getElem?_drop, Nat.add_zero]
  rw [h3, List.drop_drop] at h2
  conv => lhs; rw [h1, h2]
  simp

/-- What the node's children j and j + 1 are. -/
theorem Inr.pair {d : Nat} {w : World} {r : Nat} {ks : List Key} {qs rs : List Nat} {cs : List (Nd d)} {F0 : List Nat} {Fs : List (List Nat)} (h : Inr d w r ks qs rs cs F0 Fs) (j : Nat) (hj : j + 1 < cs.length) :
    ∃ ra a b rb Fa fa fb Fb, rs = ra ++ ([a, b] ++ rb) ∧ Fs = Fa ++ ([fa, fb] ++ Fb) ∧ ra.length = j ∧ Sons (At d w) ra (cs.take j) Fa ∧ At d w a (at' cs j) fa ∧ At d w b (at' cs (j + 1)) fb ∧ Sons (At d w) rb (cs.drop (j + 2)) Fb ∧ rs[j]? = some a ∧ rs[j + 1]? = some b := by
  have hk := h.kids
  rw [at_split2 cs j hj] at hk
  obtain ⟨ra, rx, Fa, fx, rfl, rfl, h1, h2⟩ := hk.part
  obtain ⟨rm, rb, fm, fb, rfl, rfl, h3, h4⟩ := h2.part
  have hl : ra.length = j := by rw [h1.lenR, List.length_take]; omega
  cases h3 with
  | cons h5 h6 =>
    obtain ⟨q, f, rfl, rfl, h7⟩ := h6.get1
    exact ⟨ra, _, q, rb, Fa, _, f, fb, rfl, rfl, hl, h1, h5, h7, h4, by rw [List.getElem?_append_right (by omega), hl, Nat.sub_self]; rfl, by rw [List.getElem?_append_right (by omega), hl, Nat.add_sub_cancel_left]; rfl⟩

set_option maxHeartbeats 1000000 in
set_option maxRecDepth 100000 in
theorem join_rest (d : Nat) (w : World) (r : Nat) (ks : List Key) (rs : List Nat) (cs : List (Nd d)) (F0 : List Nat) (Fs : List (List Nat)) (i : Nat) (h : Inr d w r ks rs rs cs F0 Fs) (hk : ks.length = cs.length) (hi : i < cs.length) (h90 : cs.length ≤ 90) (hc : 2 ≤ (at' cs i).length ∨ cs.length < 2) :
    Calls Try.prog 36 #[ptr r, .int .i64 i] w (JoinPost d w r cs i (F0 ++ Fs.flatten)) := by
  have hlen : rs.length = cs.length := h.kids.lenR
  obtain ⟨n, hn⟩ : ∃ n, cs.length = n := ⟨_, rfl⟩
  obtain ⟨ra, q, rb, Fa, f, Fb, _, _, _, _, hq, _, hrq⟩ := h.child i hi
  obtain ⟨g2, o2, p2, k0, k1⟩ := h.raw.kids (by omega)
  have k2 : w.cell? ⟨g2, o2 + i, none⟩ = some (.pointer (some ⟨q, 0, none⟩)) := k1 i q hrq
  rw [hlen, hn] at k0
  obtain ⟨vs0, cs0, G, hr0, hmx, _, _⟩ := hq.raw
  obtain ⟨m, hm⟩ : ∃ m, (at' cs i).length = m := ⟨_, rfl⟩
  have HZ := Lib.hid (fun w' (hs : Still w w') => size_any w' q (keys (at' cs i)) vs0 cs0 G (hr0.still hs))
  rw [hmx, hm] at HZ
  have FIN := Lib.hid (fun w' (hs : Still w w') => join_same h hk hc hs)
  have KC := Lib.hid (fun w' (hs : Still w w') => (hs.cell (p := ⟨r, 2, none⟩) k0))
  have b0 : (0 : Int) ≤ (i : Int) := by omega
  have b1 : (i : Int) < (n : Int) := by omega
  have b2 : 0 < n := by omega
  have HC := Lib.hid hc
  have HN := Lib.hid hn
  rw [hm, hn] at HC
  by_cases hm2 : 2 ≤ m
  · have t1 : decide ((m : Int) ≥ 2) = true := by simp; omega
    have t2 : decide (2 ≤ (m : Int)) = true := by simp; omega
    clear h hk hi h90 hc hlen hn hq hrq k1 hr0 hmx hm hm2
    unfold ptr at HZ ⊢
    go_enter Try.func36, Try.ntmps36
    go_wp2_with fail
    (with_reducible refine (HZ.out _ (Still.refl _)).mono ?_)
    rintro e w1 ⟨rfl, hs1⟩
    have F := Lib.hid (FIN.out _ hs1)
    clear hs1
    go_wp2_with fail
    refine bodyPost_ret (results_none rfl _ _ _) rfl ?_
    exact F.out
  · have hn2 : n < 2 := by omega
    have t1 : decide ((m : Int) ≥ 2) = false := by simp; omega
    have t2 : decide (2 ≤ (m : Int)) = false := by simp; omega
    have t3 : decide ((n : Int) < 2) = true := by simp; omega
    clear h hk hi h90 hc hlen hn hq hrq k1 hr0 hmx hm hm2 hn2
    unfold ptr at HZ ⊢
    go_enter Try.func36, Try.ntmps36
    go_wp2_with fail
    (with_reducible refine (HZ.out _ (Still.refl _)).mono ?_)
    rintro e w1 ⟨rfl, hs1⟩
    have F := Lib.hid (FIN.out _ hs1)
    have k3 := Still.cell hs1 k0
    clear hs1
    go_wp2_with fail
    refine bodyPost_ret (results_none rfl _ _ _) rfl ?_
    exact F.out

/-- What the concatenation asks and leaves. -/
def CatPost (W : World) (a : Nat) (ks : List Key) (vs : List Rid) (cs : List Nat) (Ga : List Nat) (W' : World) : Prop :=
  ∃ Ga', Raw W' a ks vs cs Ga' ∧ Only (fun b => b ∈ Ga) W W' ∧ ∀ b ∈ Ga', b ∈ Ga ∨ W.heap.size ≤ b

theorem cat_calls {W : World} {a b : Nat} {ka va ca kb vb cb : Value} {ks ks' : List Key} {vs vs' : List Rid} {cs cs' : List Nat} (ha : NodeAt W a ka va ca ks vs cs) (hb : NodeAt W b kb vb cb ks' vs' cs')
    (l1 : ks.length ≤ 1000) (l2 : vs.length ≤ 1000) (l3 : cs.length ≤ 1000) (m1 : ks'.length ≤ 1000) (m2 : vs'.length ≤ 1000) (m3 : cs'.length ≤ 1000) :
    (∀ w', Still W w' → ∀ x, cellsAt w' x [ka, kb] → Calls Try.prog 45 #[.slice (some ⟨x, 0, none⟩) 2 2] w' fun e w2 => ∃ p c, e = .returned (.slice p (ks.length + ks'.length) c) ∧ Fre w' w2 1 (ks.length + ks'.length) (.slice p (ks.length + ks'.length) c) (kcells (ks ++ ks')) ∧ Still W w') ∧
    (∀ w', Still W w' → ∀ x, cellsAt w' x [va, vb] → Calls Try.prog 46 #[.slice (some ⟨x, 0, none⟩) 2 2] w' fun e w2 => ∃ p c, e = .returned (.slice p (vs.length + vs'.length) c) ∧ Fre w' w2 2 (vs.length + vs'.length) (.slice p (vs.length + vs'.length) c) (rcells (vs ++ vs')) ∧ Still W w') ∧
    (∀ w', Still W w' → ∀ x, cellsAt w' x [ca, cb] → Calls Try.prog 47 #[.slice (some ⟨x, 0, none⟩) 2 2] w' fun e w2 => ∃ p c, e = .returned (.slice p (cs.length + cs'.length) c) ∧ Fre w' w2 1 (cs.length + cs'.length) (.slice p (cs.length + cs'.length) c) (pcells (cs ++ cs')) ∧ Still W w') ∧
    (∀ w', Still W w' → w'.cell? ⟨a, 0, none⟩ = some ka ∧ w'.cell? ⟨a, 1, none⟩ = some va ∧ w'.cell? ⟨a, 2, none⟩ = some ca ∧ w'.cell? ⟨b, 0, none⟩ = some kb ∧ w'.cell? ⟨b, 1, none⟩ = some vb ∧ w'.cell? ⟨b, 2, none⟩ = some cb) ∧
    (∀ w', Still W w' → w'.frozen? ⟨a, 0, none⟩ = false ∧ w'.frozen? ⟨a, 1, none⟩ = false ∧ w'.frozen? ⟨a, 2, none⟩ = false) := by
  refine ⟨fun w' hs x hx => ?_, fun w' hs x hx => ?_, fun w' hs x hx => ?_, fun w' hs => ?_, fun w' hs => ?_⟩
  · refine (concat_s x ka kb ks.length ks'.length (kcells ks) (kcells ks') w' hx (ha.k.only hs fun _ _ e => e).reads (hb.k.only hs fun _ _ e => e).reads (kcells_one _) (kcells_one _) (by omega) (by omega)).mono fun e w2 h => ?_
    obtain ⟨p, c, h1, h2⟩ := fre_of h
    exact ⟨p, c, h1, by unfold kcells at h2 ⊢; rw [List.map_append]; exact h2, hs⟩
  · refine (concat_r x va vb vs.length vs'.length (rcells vs) (rcells vs') w' hx (ha.v.only hs fun _ _ e => e).reads (hb.v.only hs fun _ _ e => e).reads (rcells_one _) (rcells_one _) (by omega) (by omega)).mono fun e w2 h => ?_
    obtain ⟨p, c, h1, h2⟩ := fre_of h
    exact ⟨p, c, h1, by rw [rcells_append]; exact h2, hs⟩
  · refine (concat_n x ca cb cs.length cs'.length (pcells cs) (pcells cs') w' hx (ha.c.only hs fun _ _ e => e).reads (hb.c.only hs fun _ _ e => e).reads (pcells_one _) (pcells_one _) (by omega) (by omega)).mono fun e w2 h => ?_
    obtain ⟨p, c, h1, h2⟩ := fre_of h
    exact ⟨p, c, h1, by unfold pcells at h2 ⊢; rw [List.map_append]; exact h2, hs⟩
  · exact ⟨Still.cell hs (ha.cells.cell 0), Still.cell hs (ha.cells.cell 1), Still.cell hs (ha.cells.cell 2), Still.cell hs (hb.cells.cell 0), Still.cell hs (hb.cells.cell 1), Still.cell hs (hb.cells.cell 2)⟩
  · exact ⟨(cellsAt.still hs ha.cells).free 0, (cellsAt.still hs ha.cells).free 1, (cellsAt.still hs ha.cells).free 2⟩
end Go.Proofs.Ytjmkfppnimengaa
