/- All keys from one on, one by one: the walk down a tree. Conditions: a tree in memory; where it is gathered lies apart. -/
import Derived.Test.YtjmkfppnimengaaTreeFa
import Derived.Deep.DeepCutAuto
namespace Go.Proofs.Ytjmkfppnimengaa
open Go.RowKit Go.Wh

/-- What is gone through. -/
def fromM : (d : Nat) → Nd d → Key → Nd 0
  | 0, l, k => l.drop (pos (keys l) k)
  | d + 1, l, k => (l.drop (childI (keys l) k)).flatMap fun x => fromM d (nd x) k

theorem pos_zero {l : List Key} {k : Key} (h : ∀ a ∈ l, bl k a = true) : pos l k = 0 := by
  unfold pos
  rw [takeWhile_none fun b hb => bl_asymm (h b hb)]
  rfl
theorem fromM_flat : ∀ (d : Nat) (l : Nd d) (k : Key), Fit d l → (d = 0 ∨ 0 < l.length) → KS (keys (flat d l)) → fromM d l k = (flat d l).drop (pos (keys (flat d l)) k)
  | 0, _, _, _, _, _ => rfl
  | d + 1, l, k, hf, h0, hs => by
    have h0' : 0 < l.length := by omega
    have hi := child_lt h0' k
    obtain ⟨ha, hb⟩ := child_split hf h0' hs k
    have e0 : fromM (d + 1) l k = (l.drop (childI (keys l) k)).flatMap fun x => fromM d (nd x) k := rfl
    rw [e0]
    obtain ⟨i, hie⟩ : ∃ i, childI (keys l) k = i := ⟨_, rfl⟩
    rw [hie] at hi ha hb ⊢
    have hsub := hf.sub hi
    have ih := fromM_flat d (sub l i) k hsub.2.2.1 (.inr (by omega)) (hs.sub hi)
    have e := flat_split l i hi
    rw [e, drop_mid ha hb, ← ih]
    obtain ⟨x, hx, _, hxs, hl⟩ := split_at_i l i hi
    have e2 : l.drop i = x :: l.drop (i + 1) := by
      have e3 : (l.take i).length = i := by rw [List.length_take]; omega
      conv => lhs; rw [hl]
      exact List.drop_left' e3
    rw [e2, List.flatMap_cons, hxs]
    have hrest : ∀ (m : Nd (d + 1)), (∀ y ∈ m, y ∈ l) → (∀ b ∈ keys (flat (d + 1) m), bl k b = true) → KS (keys (flat (d + 1) m)) → (m.flatMap fun x => fromM d (nd x) k) = flat (d + 1) m := by
      intro m
      induction m with
      | nil => intros; rfl
      | cons y m ihm =>
        intro hm hbm hsm
        rw [flat_cons, keys_append] at hbm hsm
        rw [List.flatMap_cons, flat_cons, ihm (fun z hz => hm z (by simp [hz])) (fun b hb => hbm b (by simp [hb])) (List.pairwise_append.1 hsm).2.1]
        have hy := hf y (hm y (by simp))
        rw [fromM_flat d (nd y) k hy.2.2.2 (.inr (by omega)) (List.pairwise_append.1 hsm).1, pos_zero fun a ha => hbm a (by simp [ha])]
        rfl
    rw [hrest _ (fun y hy => List.mem_of_mem_drop hy) hb (by
      rw [e, keys_append, keys_append] at hs
      exact (List.pairwise_append.1 (List.pairwise_append.1 hs).2.1).2.1)]

theorem vals_get {x : Nd 0} {j : Nat} {e : Key × E 0} (h : x[j]? = some e) : (vals x)[j]? = some e.2 := by
  have : (vals x)[j]? = (x[j]?).map fun y => (show Rid from y.2) := List.getElem?_map
  rw [this, h]
  rfl

def FromPost (d : Nat) (x : Nd d) (k : Key) (w : World) (mb kb vb : Nat) (most : Int) (a : Nd 0) (N : Nat) (e : Ending) (w' : World) : Prop :=
  e = .returned (.bool (gather most a (fromM d x k)).2) ∧ Gath w' mb kb vb most (gather most a (fromM d x k)).1 N ∧ Only (fun b => N ≤ b) w w'

theorem gather_length (most : Int) : ∀ (l a : Nd 0), (gather most a l).1.length ≤ a.length + l.length
  | [], a => by simp [gather]
  | e :: l, a => by
    unfold gather
    split
    · simp
    · have := gather_length most l (a ++ [e])
      simp only [List.length_append, List.length_cons, List.length_nil] at this ⊢
      omega

theorem gather_cons (most : Int) (a l : Nd 0) (e : Key × E 0) : gather most a (e :: l) = if full most a then (a, false) else gather most (a ++ [e]) l := rfl

def clo (mb kb vb : Nat) : Value := .func (.func 33) #[] #[ptr mb, ptr kb, ptr vb]

set_option maxHeartbeats 1000000 in
set_option maxRecDepth 100000 in
theorem from_zero (w : World) (r : Nat) (x : Nd 0) (G : List Nat) (k : Key) (mb kb vb : Nat) (most : Int) (a : Nd 0) (N : Nat) (h : At 0 w r x G) (hx : x.length ≤ 90) (hs : KS (keys x)) (hG : ∀ b ∈ G, b < N) (hg : Gath w mb kb vb most a N) (ha : a.length + x.length ≤ 90000) :
    Calls Try.prog 32 #[ptr r, .string k, clo mb kb vb] w (FromPost 0 x k w mb kb vb most a N) := by
  obtain ⟨kv, vv, cv, hnd, hF, hd, hlt⟩ := (show Raw w r (keys x) (vals x) [] G from h)
  obtain ⟨ca, cc, rfl⟩ := hnd.c.form'
  obtain ⟨ka, kc, rfl⟩ := hnd.k.form'
  obtain ⟨va, vc, rfl⟩ := hnd.v.form'
  have hkx := keys_length x
  have hvx := vals_length x
  obtain ⟨n, hn⟩ : ∃ n, x.length = n := ⟨_, rfl⟩
  rw [hn] at hkx hvx hx ha
  have r0 : w.cell? ⟨r, 0, none⟩ = some (.slice ka n kc) := by rw [← hkx]; exact hnd.cells.cell 0
  have r2 : w.cell? ⟨r, 2, none⟩ = some (.slice ca 0 cc) := hnd.cells.cell 2
  have HS := Lib.hid (search_any (.slice ka (keys x).length kc) (keys x).length (keys x) k w hnd.k hs (by omega))
  rw [hkx] at HS
  have hp := pos_le (keys x) k
  rw [hkx] at hp
  obtain ⟨p, hpp⟩ : ∃ p, pos (keys x) k = p := ⟨_, rfl⟩
  rw [hpp] at HS hp
  have hfm : fromM 0 x k = x.drop p := by unfold fromM; rw [hpp]
  -- what a step wants
  have hst : ∀ w' j e, Only (fun b => N ≤ b) w w' → x[j]? = some e → w'.cell? ⟨r, 0, none⟩ = some (.slice ka n kc) ∧ w'.cell? ⟨r, 1, none⟩ = some (.slice va n vc) ∧ ∃ gk ok gv ov, ka = some ⟨gk, ok, none⟩ ∧ va = some ⟨gv, ov, none⟩ ∧ w'.cell? ⟨gk, ok + j, none⟩ = some (.string e.1) ∧ w'.cell? ⟨gv, ov + j * 2, none⟩ = some (.int .i64 (show Rid from e.2).1) ∧ w'.cell? ⟨gv, ov + j * 2 + 1, none⟩ = some (.int .i64 (show Rid from e.2).2) := fun w' j e ho he => by
    have hn' := hnd.only ho fun b hb hN => by have := hG b (hF ▸ hb); omega
    have hj : j < n := by rw [← hn]; exact (List.getElem?_eq_some_iff.1 he).1
    obtain ⟨gk, ok, pk, ek, hk⟩ := hn'.k.form (by omega)
    obtain ⟨gv, ov, pv, ev, hv⟩ := hn'.v.form (by omega)
    injection ek with ek1 ek2 ek3
    injection ev with ev1 ev2 ev3
    have e1 : (keys x)[j]? = some e.1 := by unfold keys; rw [List.getElem?_map, he]; rfl
    have e2 : (vals x)[j]? = some e.2 := vals_get he
    have hr := rcells_get (vals x) j e.2 e2
    refine ⟨by rw [← hkx]; exact hn'.cells.cell 0, by rw [← hvx]; exact hn'.cells.cell 1, gk, ok, gv, ov, ek1, ev1, ?_, ?_, ?_⟩
    · rw [hk.cell j (by omega)]
      exact kcells_get e1
    · rw [hv.cell (j * 2) (by omega)]
      exact hr.1
    · rw [Nat.add_assoc, hv.cell (j * 2 + 1) (by omega)]
      exact hr.2
  have HST := Lib.hid hst
  have EA := Lib.hid (fun w' a' k' v' hg' ha' => each_any w' mb kb vb most a' N k' v' hg' ha')
  have HG := Lib.hid hg
  have HX := Lib.hid (And.intro hn (And.intro hfm (And.intro hx (And.intro ha hp))))
  have R0 := Lib.hid (fun w' (ho : Only (fun b => N ≤ b) w w') => show w'.cell? ⟨r, 0, none⟩ = some (.slice ka n kc) from by
    have hn' := hnd.only ho fun b hb hN => by have := hG b (hF ▸ hb); omega
    rw [← hkx]; exact hn'.cells.cell 0)
  clear hnd hF hd hlt hkx hvx hn hs hG hg hst hfm hpp h
  unfold ptr ridV at EA
  unfold clo ptr
  go_enter Try.func32, Try.ntmps32
  go_wp2_with fail
  refine HS.out.mono ?_
  rintro e w ⟨rfl, rfl⟩
  clear HS
  go_wp2_with fail
  go_loopw [7] (fun s wr => ∃ (j : Nat) (a' : Nd 0), s = .int .i64 j ∧ j ≤ n ∧ gather most a (x.drop p) = gather most a' (x.drop j) ∧ Gath wr mb kb vb most a' N ∧ Only (fun b => N ≤ b) w wr ∧ a'.length ≤ a.length + j) (fun s _ => n - (intOf s).toNat)
  case atStart => exact ⟨p, a, rfl, hp, rfl, HG.out, Only.refl _ _, by omega⟩
  case round =>
    obtain ⟨j, a', rfl, hjn, hga, hgw, how, hal⟩ := hrel
    by_cases hj : j < n
    · obtain ⟨e, he⟩ : ∃ e, x[j]? = some e := ⟨_, List.getElem?_eq_getElem (by have := HX.out.1; omega)⟩
      obtain ⟨z0, z1, gk, ok, gv, ov, rfl, rfl, z2, z3, z4⟩ := HST.out _ j e how he
      have hdrop : x.drop j = e :: x.drop (j + 1) := by
        rw [List.drop_eq_getElem_cons (by have := HX.out.1; omega)]
        rw [(List.getElem?_eq_some_iff.1 he).2]
      have hkr : kr e.1 e.2 = e := rfl
      have EC := Lib.hid (fun w' (hs : Still wr w') => EA.out w' a' e.1 e.2 (hgw.only hs fun _ e => e.elim) (by have := HX.out.2.2.2.1; omega))
      have HH := Lib.hid (And.intro hga (And.intro hgw (And.intro how (And.intro hal (And.intro hdrop hkr)))))
      have t1 : decide ((j : Int) < (n : Int)) = true := by simp; omega
      have t2 : decide (j < n) = true := by simp; omega
      have b0 : (0 : Int) ≤ (j : Int) := by omega
      have b1 : (j : Int) < (n : Int) := by omega
      have u9 : IntKind.i64.wrap ((j : Int) + 1) = (j : Int) + 1 := IntWalk.i64_in _ (by have := HX.out.2.2.1; omega)
      clear hga hgw how hal hdrop hkr he
      generalize hv1 : (show Rid from e.2).1 = v1 at *
      generalize hv2 : (show Rid from e.2).2 = v2 at *
      go_wp2_with fail
      go_still_tail 15, (by kernel_rfl)
      go_wp2_with fail
      (with_reducible refine (EC.out _ ?_).mono ?_)
      · exact Only.drew (Only.refl _ _)
      rintro e' w2 ⟨rfl, hg2, ho2⟩
      cases hf : full most a' with
      | true =>
        have FN := Lib.hid (show FromPost 0 x k w mb kb vb most a N (.returned (.bool false)) w2 from by
          have h1 := HH.out.1
          rw [HH.out.2.2.2.2.1] at h1
          rw [gather_cons, hf] at h1
          rw [hf] at hg2
          have h2 : gather most a (x.drop p) = (a', false) := h1
          unfold FromPost
          rw [HX.out.2.1, h2]
          exact ⟨rfl, hg2, HH.out.2.2.1.trans ho2.undrew⟩)
        clear hg2 ho2 hf
        go_wp2_with fail
        go_ret
        exact FN.out
      | false =>
        have FN := Lib.hid (show gather most a (x.drop p) = gather most (a' ++ [e]) (x.drop (j + 1)) ∧ Gath w2 mb kb vb most (a' ++ [e]) N ∧ Only (fun b => N ≤ b) w w2 ∧ (a' ++ [e]).length ≤ a.length + (j + 1) from by
          have h1 := HH.out.1
          rw [HH.out.2.2.2.2.1] at h1
          have h3 : gather most a' (e :: x.drop (j + 1)) = gather most (a' ++ [e]) (x.drop (j + 1)) := by
            rw [gather_cons, hf]
            rfl
          rw [hf] at hg2
          refine ⟨h1.trans h3, hg2, HH.out.2.2.1.trans ho2.undrew, ?_⟩
          have := HH.out.2.2.2.1
          simp only [List.length_append, List.length_cons, List.length_nil]
          omega)
        clear hg2 ho2 hf
        go_wp2_with fail
        go_roundw
        case rel => exact ⟨j + 1, _, by go_num, by omega, FN.out⟩
        case measure => simp [intOf]; omega
    · have hge : j = n := by omega
      subst hge
      have FN := Lib.hid (show FromPost 0 x k w mb kb vb most a N (.returned (.bool true)) wr from by
        have hd0 : x.drop j = [] := List.drop_eq_nil_of_le (by have := HX.out.1; omega)
        rw [hd0] at hga
        unfold FromPost
        rw [HX.out.2.1, hga]
        exact ⟨rfl, hgw, how⟩)
      have z0 := R0.out _ how
      have t1 : decide ((j : Int) < (j : Int)) = false := by simp
      clear hga hgw how hal
      go_wp2_with fail
      go_ret
      exact FN.out
end Go.Proofs.Ytjmkfppnimengaa
