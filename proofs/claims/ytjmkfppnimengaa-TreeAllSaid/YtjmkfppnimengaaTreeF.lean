/- Parting at any level of a tree in memory. Conditions: a tree in memory. -/
import Derived.Test.YtjmkfppnimengaaTreeE
import Derived.Test.YtjmkfppnimengaaTreeD
namespace Go.Proofs.Ytjmkfppnimengaa
open Go.RowKit Go.Wh

def SplitAt (d : Nat) (w : World) (r : Nat) (l : Nd d) (F : List Nat) (e : Ending) (w' : World) : Prop :=
  ∃ r' F1 F2, e = .returned (ptr r') ∧ At d w' r (l.take (l.length / 2)) F1 ∧ At d w' r' (l.drop (l.length / 2)) F2 ∧ Only (fun b => b ∈ F) w w' ∧ (F1 ++ F2).Nodup ∧ ∀ b ∈ F1 ++ F2, b ∈ F ∨ w.heap.size ≤ b

theorem apart_new {F1 F2 : List Nat} {N : Nat} (h1 : F1.Nodup) (h2 : F2.Nodup) (l1 : ∀ b ∈ F1, b < N) (l2 : ∀ b ∈ F2, N ≤ b) : (F1 ++ F2).Nodup :=
  List.nodup_append.2 ⟨h1, h2, fun a ha b hb e => by have := l1 a ha; have := l2 b hb; omega⟩

theorem split_at (d : Nat) (w : World) (r : Nat) (l : Nd d) (F : List Nat) (h : At d w r l F) (h4 : 4 < l.length) (hs : l.length ≤ 100) :
    Calls Try.prog 28 #[ptr r] w (SplitAt d w r l F) := by
  cases d with
  | zero =>
    have hr : Raw w r (keys l) (vals l) [] F := h
    refine (split_great w r _ _ _ F l.length hr ((Nat.zero_max _).trans (vals_length _)) (keys_length _) h4 hs (.inl rfl)).mono ?_
    rintro e w' ⟨r', F1, F2, rfl, h1, h2, ho, hf1, hf2⟩
    rw [List.take_nil] at h1
    rw [List.drop_nil] at h2
    have e1 : Raw w' r (keys (l.take (l.length / 2))) (vals (l.take (l.length / 2))) [] F1 := by
      rw [← keys_take, ← vals_take]; exact h1
    have e2 : Raw w' r' (keys (l.drop (l.length / 2))) (vals (l.drop (l.length / 2))) [] F2 := by
      rw [← keys_drop, ← vals_drop]; exact h2
    refine ⟨r', F1, F2, rfl, e1, e2, ho, apart_new h1.nodup h2.nodup (fun b hb => hr.lt b (hf1 b hb)) hf2, fun b hb => ?_⟩
    exact (List.mem_append.1 hb).imp (hf1 b) (hf2 b)
  | succ d =>
    obtain ⟨rs, F0, Fs, hr, hk, hF, hd⟩ := h
    have hlen : rs.length = l.length := hk.lenR.trans (subs_length _)
    refine (split_great w r _ _ _ F0 l.length hr ((Nat.max_zero _).trans hlen) (keys_length _) h4 hs (.inr rfl)).mono ?_
    rintro e w' ⟨r', F1, F2, rfl, h1, h2, ho, hf1, hf2⟩
    rw [List.take_nil] at h1
    rw [List.drop_nil] at h2
    subst hF
    have hd' := List.nodup_append.1 hd
    have hk' : Sons (At d w') rs (subs l) Fs := hk.imp fun r a f hf h => h.only ho fun b hb hb0 => hd'.2.2 b hb0 b (List.mem_flatten.2 ⟨f, hf, hb⟩) rfl
    have hFl : ∀ b ∈ Fs.flatten, b < w.heap.size := fun b hb => by
      obtain ⟨f, hf, hbf⟩ := List.mem_flatten.1 hb
      exact hk.all (P := fun f => ∀ b ∈ f, b < w.heap.size) (fun _ _ _ h => At.lt h) f hf b hbf
    have hml : subs l = subs (l.take (l.length / 2)) ++ subs (l.drop (l.length / 2)) := by rw [← subs_append, List.take_append_drop]
    rw [hml] at hk'
    obtain ⟨r1, r2, f1, f2, rfl, rfl, k1, k2⟩ := hk'.part
    have l1 : r1.length = l.length / 2 := by
      have := k1.lenR
      rw [subs_length, List.length_take] at this
      omega
    rw [List.take_left' l1] at h1
    rw [List.drop_left' l1] at h2
    rw [keys_take] at h1
    rw [keys_drop] at h2
    rw [List.flatten_append] at hd hd' hFl
    have n1 := List.nodup_append.1 hd'.2.1
    have m1 : (F1 ++ f1.flatten).Nodup := List.nodup_append.2 ⟨h1.nodup, n1.1, fun a ha b hb => hd'.2.2 a (hf1 a ha) b (by simp only [List.mem_append]; exact .inl hb)⟩
    have m2 : (F2 ++ f2.flatten).Nodup := List.nodup_append.2 ⟨h2.nodup, n1.2.1, fun a ha b hb e => by
      have := hf2 a ha
      have := hFl b (by simp only [List.mem_append]; exact .inr hb)
      omega⟩
    refine ⟨r', F1 ++ f1.flatten, F2 ++ f2.flatten, rfl, ⟨r1, F1, f1, h1, k1, rfl, m1⟩, ⟨r2, F2, f2, h2, k2, rfl, m2⟩, ho.mono fun b hb => List.mem_append_left _ hb, List.nodup_append.2 ⟨m1, m2, fun a ha b hb e => ?_⟩, fun b hb => ?_⟩
    · subst e
      rcases List.mem_append.1 ha with ha | ha <;> rcases List.mem_append.1 hb with hb | hb
      · have := hr.lt a (hf1 a ha); have := hf2 a hb; omega
      · exact hd'.2.2 a (hf1 a ha) a (by simp only [List.mem_append]; exact .inr hb) rfl
      · have := hFl a (by simp only [List.mem_append]; exact .inl ha); have := hf2 a hb; omega
      · exact n1.2.2 a ha a hb rfl
    · rw [List.flatten_append]
      simp only [List.mem_append] at hb ⊢
      rcases hb with (hb | hb) | (hb | hb)
      · exact .inl (.inl (hf1 b hb))
      · exact .inl (.inr (.inl hb))
      · exact .inr (hf2 b hb)
      · exact .inl (.inr (.inr hb))

theorem split_at_small (d : Nat) (w : World) (r : Nat) (l : Nd d) (F : List Nat) (h : At d w r l F) (h4 : l.length ≤ 4) :
    Calls Try.prog 28 #[ptr r] w fun e w' => e = .returned (.pointer none) ∧ Still w w' := by
  obtain ⟨vs, cs, F0, hr, hm, _, _⟩ := h.raw
  exact split_small w r _ vs cs F0 hr (by omega)
end Go.Proofs.Ytjmkfppnimengaa
