/- A shape is one of a balanced tree of so many keys: the walk of 'sound', and that a tree's shape is so. Conditions: the shape lies in memory. -/
import Derived.Test.YtjmkfppnimengaaTreeBe
namespace Go.Proofs.Ytjmkfppnimengaa
open Go.RowKit Go.Wh

/-- What is asked of a shape. -/
structure SoundL (ss : List (List Nat)) (n : Nat) : Prop where
  pos : 0 < ss.length
  one : ∀ s, ss[0]? = some s → s.length = 1
  node : ∀ (i k : Nat) (s : List Nat) (v : Nat), ss[i]? = some s → s[k]? = some v → v ≤ 4 ∧ (2 ≤ v ∨ (i = 0 ∧ ss.length = 1))
  sum : ∀ (i : Nat) (s t : List Nat), ss[i]? = some s → ss[i + 1]? = some t → s.sum = t.length
  last : ∀ (s : List Nat), ss[ss.length - 1]? = some s → s.sum = n

theorem sum_lengths {e : Nat} : ∀ (us : List (Nd (e + 1))), (us.map List.length).sum = (us.flatMap subs).length
  | [] => rfl
  | u :: us => by
    rw [List.map_cons, List.sum_cons, sum_lengths us, List.flatMap_cons, List.length_append, subs_length]
theorem sum_flat : ∀ (us : List (Nd 0)), (us.map List.length).sum = (flatC us).length
  | [] => rfl
  | u :: us => by
    rw [List.map_cons, List.sum_cons, sum_flat us, flatC_cons, List.length_append]
    rfl
theorem shp_head (e : Nat) (us : List (Nd e)) : (shp e us)[0]? = some (us.map List.length) := by
  cases e <;> rfl
theorem shp_sums : ∀ (e : Nat) (us : List (Nd e)), (∀ (i : Nat) (s t : List Nat), (shp e us)[i]? = some s → (shp e us)[i + 1]? = some t → s.sum = t.length) ∧ ∀ s, (shp e us)[e]? = some s → s.sum = (flatC us).length
  | 0, us => by
    refine ⟨fun i s t h1 h2 => ?_, fun s h => ?_⟩
    · simp [shp] at h2
    · have h' : us.map List.length = s := by simpa [shp] using h
      rw [← h', sum_flat]
  | e + 1, us => by
    have ih := shp_sums e (us.flatMap subs)
    refine ⟨fun i s t h1 h2 => ?_, fun s h => ?_⟩
    · have h2' : (shp e (us.flatMap subs))[i]? = some t := h2
      cases i with
      | zero =>
        have h1' : us.map List.length = s := by injection h1
        rw [shp_head] at h2'
        injection h2' with h2'
        rw [← h1', ← h2', sum_lengths, List.length_map]
      | succ i => exact ih.1 i s t h1 h2'
    · have h' : (shp e (us.flatMap subs))[e]? = some s := h
      rw [ih.2 s h', flatC_down]
theorem shp_nodes : ∀ (e : Nat) (us : List (Nd e)), (∀ u ∈ us, Fit e u ∧ 2 ≤ u.length ∧ u.length ≤ 4) → ∀ (i k : Nat) (s : List Nat) (v : Nat), (shp e us)[i]? = some s → s[k]? = some v → 2 ≤ v ∧ v ≤ 4
  | 0, us, h, i, k, s, v, h1, h2 => by
    cases i with
    | zero =>
      have h1' : us.map List.length = s := by injection h1
      rw [← h1', List.getElem?_map] at h2
      cases hu : us[k]? with
      | none => rw [hu] at h2; cases h2
      | some u =>
        rw [hu] at h2
        injection h2 with h2
        rw [← h2]
        exact (h u (List.mem_of_getElem? hu)).2
    | succ i => simp [shp] at h1
  | e + 1, us, h, i, k, s, v, h1, h2 => by
    cases i with
    | zero =>
      have h1' : us.map List.length = s := by injection h1
      rw [← h1', List.getElem?_map] at h2
      cases hu : us[k]? with
      | none => rw [hu] at h2; cases h2
      | some u =>
        rw [hu] at h2
        injection h2 with h2
        rw [← h2]
        exact (h u (List.mem_of_getElem? hu)).2
    | succ i =>
      refine shp_nodes e (us.flatMap subs) (fun c hc => ?_) i k s v h1 h2
      obtain ⟨u, hu, hcu⟩ := List.mem_flatMap.1 hc
      obtain ⟨x, hx, rfl⟩ := subs_mem hcu
      have := (h u hu).1 x hx
      exact ⟨this.2.2.2, this.1, this.2.1⟩
theorem sound_good {d : Nat} {x : Nd d} (h : Good d x) : SoundL (shp d [x]) (flat d x).length := by
  have hl := shp_length d [x]
  have hs := shp_sums d [x]
  refine ⟨by omega, fun s hs => ?_, fun i k s v h1 h2 => ?_, hs.1, fun s h1 => ?_⟩
  · rw [shp_head] at hs
    injection hs with hs
    rw [← hs]
    rfl
  · rcases h.two with h0 | h0
    · subst h0
      cases i with
      | zero =>
        have h1' : [x].map List.length = s := by injection h1
        rw [← h1'] at h2
        cases k with
        | zero =>
          injection h2 with h2
          rw [← h2]
          exact ⟨h.four, .inr ⟨rfl, rfl⟩⟩
        | succ k => cases h2
      | succ i => simp [shp] at h1
    · have := shp_nodes d [x] (fun u hu => by simp at hu; subst hu; exact ⟨h.fit, h0, h.four⟩) i k s v h1 h2
      exact ⟨this.2, .inl this.1⟩
  · rw [hl, Nat.add_sub_cancel] at h1
    rw [hs.2 s h1, flatC_one]

theorem sum_take {s : List Nat} {k v : Nat} (h : s[k]? = some v) : (s.take (k + 1)).sum = (s.take k).sum + v := by
  rw [List.take_add_one, h]
  simp
theorem sum_take_le {s : List Nat} (k : Nat) (h : ∀ v ∈ s, v ≤ 4) : (s.take k).sum ≤ 4 * k := by
  induction k generalizing s with
  | zero => simp
  | succ k ih =>
    cases s with
    | nil => simp
    | cons a s =>
      rw [List.take_succ_cons, List.sum_cons]
      have h1 := h a (by simp)
      have h2 := ih (s := s) fun v hv => h v (List.mem_cons_of_mem _ hv)
      omega

set_option maxHeartbeats 1000000 in
set_option maxRecDepth 100000 in
theorem sound_any (w : World) (out : Value) (ss : List (List Nat)) (ps : List Value) (n N : Nat) (R : Nat → Prop) (hs : SoundL ss n) (ho : Vec w 1 out ss.length ps) (hr : RowsAt w N ps ss R) (hm : ss.length ≤ 100000) (hrl : ∀ s ∈ ss, s.length ≤ 100000) :
    Calls Try.prog 19 #[out, .int .i64 n] w (fun e w' => e = .returned (.bool true) ∧ w' = w) := by
  obtain ⟨g, o, c, rfl, hv⟩ := ho.form hs.pos
  have hrow : ∀ i, i < ss.length → ∃ s a c, ss[i]? = some s ∧ w.cell? ⟨g, o + i, none⟩ = some (.slice a s.length c) ∧ ∀ (k v : Nat), s[k]? = some v → ∃ gr or, a = some ⟨gr, or, none⟩ ∧ w.cell? ⟨gr, or + k, none⟩ = some (.int .i64 (v : Int)) := fun i hi => by
    obtain ⟨s, h1⟩ : ∃ s, ss[i]? = some s := ⟨_, List.getElem?_eq_getElem hi⟩
    obtain ⟨p, h2⟩ : ∃ p, ps[i]? = some p := ⟨_, List.getElem?_eq_getElem (by rw [hr.1]; exact hi)⟩
    obtain ⟨h3, _⟩ := hr.2 i p s h2 h1
    obtain ⟨a, c', rfl⟩ := h3.form'
    refine ⟨s, a, c', h1, by rw [hv.cell i (by omega)]; exact h2, fun k v hk => ?_⟩
    have hkl := (List.getElem?_eq_some_iff.1 hk).1
    obtain ⟨gr, or, cr, he, h4⟩ := h3.form (by omega)
    injection he with he
    refine ⟨gr, or, he, ?_⟩
    rw [h4.cell k (by omega)]
    unfold icells
    rw [List.getElem?_map, hk]
    rfl
  obtain ⟨m, hml⟩ : ∃ m, ss.length = m := ⟨_, rfl⟩
  have HR := Lib.hid hrow
  have HS := Lib.hid hs
  have HX := Lib.hid (And.intro hml (And.intro hm hrl))
  obtain ⟨s0, a0, c0, h0, h1, -⟩ := hrow 0 hs.pos
  have h2 := hs.one s0 h0
  rw [h2] at h1
  have h1' : w.cell? ⟨g, o, none⟩ = some (.slice a0 1 c0) := h1
  have hpos := hs.pos
  rw [hml] at hpos ⊢
  have t1 : ((m : Int) == 0) = false := by rw [beq_eq_false_iff_ne]; omega
  have b0 : (0 : Int) < (m : Int) := by omega
  clear hrow hs ho hr hm hrl h0 h1 h2 hv
  go_enter Try.func19, Try.ntmps19
  go_wp2_with fail
  go_loopw [5] (fun s wr => ∃ i : Nat, s = .int .i64 i ∧ i ≤ m ∧ wr = w) (fun s _ => m - (intOf s).toNat)
  case atStart => exact ⟨0, rfl, Nat.zero_le _, rfl⟩
  case round =>
    clear h1'
    obtain ⟨i, rfl, him, rfl⟩ := hrel
    by_cases hi : i < m
    · obtain ⟨s, a, c1, q1, q2, q3⟩ := HR.out i (by have := HX.out.1; omega)
      obtain ⟨kl, hkl⟩ : ∃ kl, s.length = kl := ⟨_, rfl⟩
      rw [hkl] at q2
      have hs4 : ∀ v ∈ s, v ≤ 4 := fun v hv => by
        obtain ⟨k, hk⟩ := List.mem_iff_getElem?.1 hv
        exact (HS.out.node i k s v q1 hk).1
      have hslen : kl ≤ 100000 := by rw [← hkl]; exact HX.out.2.2 s (List.mem_of_getElem? q1)
      have HQ := Lib.hid (And.intro q1 (And.intro q3 (And.intro hkl (And.intro hs4 hslen))))
      have a1 : decide ((i : Int) < (m : Int)) = true := by simp; omega
      have a2 : decide (i < m) = true := by simp; omega
      have a3 : (0 : Int) ≤ (i : Int) := by omega
      have a4 : (i : Int) < (m : Int) := by omega
      have u9 : IntKind.i64.wrap ((i : Int) + 1) = (i : Int) + 1 := IntWalk.i64_in _ (by have := HX.out; omega)
      clear q1 q3 hkl hs4 hslen
      go_wp2_with fail
      obtain ⟨w1, rfl⟩ : ∃ w1 : World, w1 = wr := ⟨_, rfl⟩
      go_loopw [6, 7] (fun sm s' wr => ∃ k : Nat, s' = .int .i64 k ∧ k ≤ kl ∧ sm = .int .i64 ((s.take k).sum : Nat) ∧ wr = w1) (fun _ s' _ => kl - (intOf s').toNat)
      case atStart => exact ⟨0, rfl, Nat.zero_le _, rfl, rfl⟩
      case round =>
        obtain ⟨k, rfl, hkm, rfl, rfl⟩ := hrel
        by_cases hk : k < kl
        · obtain ⟨v, hv⟩ : ∃ v, s[k]? = some v := ⟨_, List.getElem?_eq_getElem (by have := HQ.out; omega)⟩
          obtain ⟨gr, or, rfl, q4⟩ := HQ.out.2.1 k v hv
          have hn := HS.out.node i k s v HQ.out.1 hv
          have hsum := sum_take hv
          have hle := sum_take_le (k + 1) HQ.out.2.2.2.1
          have HV := Lib.hid (And.intro hsum hle)
          obtain ⟨sm, hsm⟩ : ∃ sm, (s.take k).sum = sm := ⟨_, rfl⟩
          have HSM := Lib.hid hsm
          rw [hsm]
          have hsb : (sm : Int) + (v : Int) ≤ 1000000 := by have := HQ.out; rw [hsum, hsm] at hle; omega
          have u8 : IntKind.i64.wrap ((sm : Int) + (v : Int)) = (sm : Int) + (v : Int) := IntWalk.i64_in _ (by omega)
          have u7 : IntKind.i64.wrap ((k : Int) + 1) = (k : Int) + 1 := IntWalk.i64_in _ (by have := HQ.out; omega)
          have d1 : decide ((k : Int) < (kl : Int)) = true := by simp; omega
          have d2 : decide (k < kl) = true := by simp; omega
          have d3 : (0 : Int) ≤ (k : Int) := by omega
          have d4 : (k : Int) < (kl : Int) := by omega
          have d5 : decide ((4 : Int) < (v : Int)) = false := by simp; omega
          have d6 : decide (4 < v) = false := by simp; omega
          clear hv hsum hle hsm hsb
          rcases Nat.eq_zero_or_pos i with hi0 | hi0
          · rcases Nat.eq_or_lt_of_le (show 1 ≤ m by omega) with hm1 | hm1
            · have e1 : ((i : Int) == 0) = true := by rw [beq_iff_eq]; omega
              have e1' : (i == 0) = true := by rw [beq_iff_eq]; omega
              have e2 : ((m : Int) == 1) = true := by rw [beq_iff_eq]; omega
              have e2' : (m == 1) = true := by rw [beq_iff_eq]; omega
              have e3 : decide ((v : Int) < 0) = false := by simp
              clear hn hi0 hm1 hi
              go_wp2_with fail
              go_roundw
              case rel => exact ⟨k + 1, by go_num, by omega, by rw [HV.out.1, HSM.out]; simp, trivial⟩
              case measure => simp [intOf]; omega
            · have e1 : ((i : Int) == 0) = true := by rw [beq_iff_eq]; omega
              have e1' : (i == 0) = true := by rw [beq_iff_eq]; omega
              have e2 : ((m : Int) == 1) = false := by rw [beq_eq_false_iff_ne]; omega
              have e2' : (m == 1) = false := by rw [beq_eq_false_iff_ne]; omega
              have hv2 : 2 ≤ v := by have := HX.out; omega
              have e3 : decide ((v : Int) < 2) = false := by simp; omega
              have e4 : decide (v < 2) = false := by simp; omega
              clear hn hi0 hm1 hi hv2
              go_wp2_with fail
              go_roundw
              case rel => exact ⟨k + 1, by go_num, by omega, by rw [HV.out.1, HSM.out]; simp, trivial⟩
              case measure => simp [intOf]; omega
          · have e1 : ((i : Int) == 0) = false := by rw [beq_eq_false_iff_ne]; omega
            have e1' : (i == 0) = false := by rw [beq_eq_false_iff_ne]; omega
            have hv2 : 2 ≤ v := by omega
            have e3 : decide ((v : Int) < 2) = false := by simp; omega
            have e4 : decide (v < 2) = false := by simp; omega
            clear hn hi0 hi hv2
            go_wp2_with fail
            go_roundw
            case rel => exact ⟨k + 1, by go_num, by omega, by rw [HV.out.1, HSM.out]; simp, trivial⟩
            case measure => simp [intOf]; omega
        · have hge : k = kl := by omega
          subst hge
          have d1 : decide ((k : Int) < (k : Int)) = false := by simp
          have hst : (s.take k).sum = s.sum := by rw [← HQ.out.2.2.1, List.take_length]
          rw [hst]
          rcases Nat.lt_or_ge (i + 1) m with h1 | h1
          · obtain ⟨s2, a2', c2, p1, p2, -⟩ := HR.out (i + 1) (by have := HX.out.1; omega)
            have hss := HS.out.sum i s s2 HQ.out.1 p1
            rw [← hss] at p2
            have e1 : decide ((i : Int) + 1 < (m : Int)) = true := by simp; omega
            have e2 : (i : Int) + 1 < (m : Int) := by omega
            have e3 : (0 : Int) ≤ (i : Int) + 1 := by omega
            have e4 : ((i : Int) + 1 == (m : Int)) = false := by rw [beq_eq_false_iff_ne]; omega
            have e5 : ((i : Int) + 1).toNat = i + 1 := by omega
            generalize s.sum = sm at *
            clear hst hss p1 hi
            go_wp2_with fail
            go_roundw
            case rel => exact ⟨i + 1, by go_num, by omega, trivial⟩
            case measure => simp [intOf]; omega
          · have hss := HS.out.last s (by have := HX.out.1; rw [this, show m - 1 = i by omega]; exact HQ.out.1)
            rw [hss]
            have e1 : decide ((i : Int) + 1 < (m : Int)) = false := by simp; omega
            have e4 : ((i : Int) + 1 == (m : Int)) = true := by rw [beq_iff_eq]; omega
            clear hst hss hi
            go_wp2_with fail
            go_roundw
            case rel => exact ⟨i + 1, by go_num, by omega, trivial⟩
            case measure => simp [intOf]; omega
    · have hge : i = m := by omega
      subst hge
      have a1 : decide ((i : Int) < (i : Int)) = false := by simp
      go_wp2_with fail
      go_ret
      exact ⟨rfl, rfl⟩
end Go.Proofs.Ytjmkfppnimengaa
