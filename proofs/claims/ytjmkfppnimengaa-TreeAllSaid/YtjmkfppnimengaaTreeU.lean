/- Joining two neighbours: what the node is in between, and two insertions that are laid in some order. Conditions: a node of children in memory. -/
import Derived.Test.YtjmkfppnimengaaTreeT
namespace Go.Proofs.Ytjmkfppnimengaa
open Go.RowKit Go.Wh

section
variable {d : Nat} {W w wc w3 w4 w5 : World} {r a b y j n : Nat} {ks ks' : List Key} {rs qa qb ra rb : List Nat} {cs A B : List (Nd d)} {c c1 c2 : Nd d} {F0 fa fb F' f F1 F2 F : List Nat} {Fs Ga Gb Fa Fb : List (List Nat)}

theorem join_cat (h : Inr d W r ks rs rs cs F0 Fs) (hj : j + 1 < cs.length) (hrs : rs = qa ++ ([a, b] ++ qb)) (hFs : Fs = Ga ++ ([fa, fb] ++ Gb)) (sa : Sons (At d W) qa (cs.take j) Ga) (sb : Sons (At d W) qb (cs.drop (j + 2)) Gb)
    (hat : At d wc a (at' cs j ++ at' cs (j + 1)) F') (ho : Only (fun x => x ∈ fa) W wc) (hs : ∀ x ∈ F', x ∈ fa ++ fb ∨ W.heap.size ≤ x) :
    Inr d wc r ks rs (qa ++ ([a] ++ qb)) (cs.take j ++ ([at' cs j ++ at' cs (j + 1)] ++ cs.drop (j + 2))) F0 (Ga ++ ([F'] ++ Gb)) := by
  subst hrs hFs
  have h1 : Inr d W r ks (qa ++ ([a, b] ++ qb)) (qa ++ ([a, b] ++ qb)) (cs.take j ++ ([at' cs j, at' cs (j + 1)] ++ cs.drop (j + 2))) F0 (Ga ++ ([fa, fb] ++ Gb)) := by
    rw [← at_split2 cs j hj]
    exact h
  exact h1.turn sa sb (Sons.one hat) (by simpa using hat.nodup) (ho.mono fun x hx => by simp [hx]) (fun x hx => by
    have hx' : x ∈ F' := by simpa using hx
    simpa using hs x hx')

/-- Behind the deletion. -/
def JoinMid (d : Nat) (w : World) (r : Nat) (cs : List (Nd d)) (j a n : Nat) (F : List Nat) (w4 : World) : Prop :=
  ∃ ks' rs' F0' Fs', ks'.length = n - 1 ∧ rs'[j]? = some a ∧ Inr d w4 r ks' rs' rs' (cs.take j ++ ([at' cs j ++ at' cs (j + 1)] ++ cs.drop (j + 2))) F0' Fs' ∧ Only (fun b => b ∈ F) w w4 ∧ ∀ b ∈ F0' ++ Fs'.flatten, b ∈ F ∨ w.heap.size ≤ b

theorem join_del {v : Value} {e : Ending} (h : Inr d wc r ks (qa ++ ([a, b] ++ qb)) (qa ++ ([a] ++ qb)) (cs.take j ++ ([at' cs j ++ at' cs (j + 1)] ++ cs.drop (j + 2))) F0 (Ga ++ ([F'] ++ Gb))) (hq : qa.length = j) (hk : ks.length = n) (hjn : j + 1 < n)
    (hp : RawPost wc r (ks.take (j + 1) ++ ks.drop (j + 1 + 1)) [] ((qa ++ ([a, b] ++ qb)).take (j + 1) ++ (qa ++ ([a, b] ++ qb)).drop (j + 1 + 1)) F0 v e w4)
    (hw : Still w W) (hF : F = F0 ++ (Ga ++ ([fa, fb] ++ Gb)).flatten) (ho : Only (fun x => x ∈ fa) W wc) (hs : ∀ x ∈ F', x ∈ fa ++ fb ∨ W.heap.size ≤ x) : JoinMid d w r cs j a n F w4 := by
  obtain ⟨F0', _, hr, ho', hf'⟩ := hp
  have e1 : (qa ++ ([a, b] ++ qb)).take (j + 1) ++ (qa ++ ([a, b] ++ qb)).drop (j + 1 + 1) = qa ++ ([a] ++ qb) := by
    have e2 : qa ++ ([a, b] ++ qb) = (qa ++ [a]) ++ ([b] ++ qb) := by simp
    have e3 : qa ++ ([a, b] ++ qb) = (qa ++ [a, b]) ++ qb := by simp
    rw [show (qa ++ ([a, b] ++ qb)).take (j + 1) = qa ++ [a] by rw [e2]; exact List.take_left' (by simp [hq]), show (qa ++ ([a, b] ++ qb)).drop (j + 1 + 1) = qb by rw [e3]; exact List.drop_left' (by simp [hq])]
    simp
  rw [e1] at hr
  have h4 := h.rawTurn hr ho' hf'
  have hww := Nat.le_trans hw.size ho.size
  refine ⟨_, _, F0', _, by simp; omega, by rw [List.getElem?_append_right (by omega), hq, Nat.sub_self]; rfl, h4, ?_, fun x hx => ?_⟩
  · subst hF
    exact ((hw.only.trans (ho.mono fun x hx => by simp [hx])).andThen ho' fun x _ hx => by simp [hx])
  · subst hF
    simp only [List.flatten_append, List.flatten_cons, List.flatten_nil, List.append_nil, List.mem_append] at hx hs ⊢
    rcases hx with hx | hx | hx | hx
    · rcases hf' x hx with h | h
      · exact .inl (.inl h)
      · exact .inr (Nat.le_trans hww h)
    · exact .inl (.inr (.inl hx))
    · rcases hs x hx with h | h
      · exact .inl (.inr (.inr (.inl h)))
      · exact .inr (Nat.le_trans hw.size h)
    · exact .inl (.inr (.inr (.inr hx)))

theorem join_small {i : Nat} {e : Ending} (h : JoinMid d w r cs j a n F w4) (hc : ¬ (2 ≤ (at' cs i).length ∨ cs.length < 2)) (hij : i - 1 = j) (hn : cs.length = n) (hjn : j + 1 < n) (h4 : (at' cs j ++ at' cs (j + 1)).length ≤ 4) (he : e = .returned (.tuple #[])) (hs : Still w4 w5) : JoinPost d w r cs i F e w5 := by
  obtain ⟨ks', rs', F0', Fs', hk, _, hin, ho, hf⟩ := h
  have ej : joinC cs i = cs.take j ++ ([at' cs j ++ at' cs (j + 1)] ++ cs.drop (j + 2)) := by
    unfold joinC halves
    rw [if_neg hc, hij, if_pos h4]
  refine ⟨ks', rs', F0', Fs', he, by rw [ej]; exact hin.still hs, ?_, ho.trans hs.only, hf⟩
  rw [ej, hk]
  simp
  omega

theorem join_split (h : Inr d w4 r ks' (ra ++ ([a] ++ rb)) (ra ++ ([a] ++ rb)) (A ++ ([c] ++ B)) F0 (Fa ++ ([f] ++ Fb))) (sa : Sons (At d w4) ra A Fa) (sb : Sons (At d w4) rb B Fb)
    (h1 : At d w3 a c1 F1) (h2 : At d w3 y c2 F2) (ho : Only (fun b => b ∈ f) w4 w3) (hn : (F1 ++ F2).Nodup) (hf : ∀ b ∈ F1 ++ F2, b ∈ f ∨ w4.heap.size ≤ b) :
    Inr d w3 r ks' (ra ++ ([a] ++ rb)) (ra ++ ([a, y] ++ rb)) (A ++ ([c1, c2] ++ B)) F0 (Fa ++ ([F1, F2] ++ Fb)) :=
  h.turn sa sb (Sons.cons h1 (Sons.one h2)) (by simpa using hn) (ho.mono fun x hx => by simp [hx]) (fun x hx => by
    have hx' : x ∈ F1 ++ F2 := by simpa using hx
    simpa using hf x hx')

theorem join_great {i : Nat} {e : Ending} {v : Value} {k : Key} (h : Inr d w3 r ks' (ra ++ ([a] ++ rb)) (ra ++ ([a, y] ++ rb)) (cs.take j ++ ([c1, c2] ++ cs.drop (j + 2))) F0 (Fa ++ ([F1, F2] ++ Fb))) (hra : ra.length = j) (hk : ks'.length = n - 1)
    (hp : RawPost w3 r (ks'.take (j + 1) ++ k :: ks'.drop (j + 1)) [] ((ra ++ ([a] ++ rb)).take (j + 1) ++ y :: (ra ++ ([a] ++ rb)).drop (j + 1)) F0 v e w5) (he : e = .returned (.tuple #[]))
    (hc : ¬ (2 ≤ (at' cs i).length ∨ cs.length < 2)) (hij : i - 1 = j) (hn : cs.length = n) (hjn : j + 1 < n) (hh : halves (at' cs j ++ at' cs (j + 1)) = [c1, c2])
    (ho : Only (fun b => b ∈ F) w w4) (hfs : ∀ b ∈ F0 ++ (Fa ++ ([f] ++ Fb)).flatten, b ∈ F ∨ w.heap.size ≤ b) (ho3 : Only (fun b => b ∈ f) w4 w3) (hf3 : ∀ b ∈ F1 ++ F2, b ∈ f ∨ w4.heap.size ≤ b) : JoinPost d w r cs i F e w5 := by
  obtain ⟨F0', _, hr, ho', hf'⟩ := hp
  have e1 : (ra ++ ([a] ++ rb)).take (j + 1) ++ y :: (ra ++ ([a] ++ rb)).drop (j + 1) = ra ++ ([a, y] ++ rb) := by
    rw [← List.append_assoc, List.take_left' (by simp [hra]), List.drop_left' (by simp [hra])]
    simp
  rw [e1] at hr
  have h4 := h.rawTurn hr ho' hf'
  have ej : joinC cs i = cs.take j ++ ([c1, c2] ++ cs.drop (j + 2)) := by
    unfold joinC
    rw [if_neg hc, hij, hh]
  have hWw : w.heap.size ≤ w3.heap.size := Nat.le_trans ho.size ho3.size
  have hall : ∀ b, b ∈ f → b ∈ F ∨ w.heap.size ≤ b := fun b hb => hfs b (by simp [hb])
  have h0 : ∀ b, b ∈ F0 → b ∈ F ∨ w.heap.size ≤ b := fun b hb => hfs b (by simp [hb])
  refine ⟨_, _, F0', _, he, by rw [ej]; exact h4, ?_, ?_, fun b hb => ?_⟩
  · rw [ej]
    simp
    omega
  · refine (ho.andThen ho3 fun b hb hb' => ?_).andThen ho' fun b hb hb' => ?_
    · rcases hall b hb' with h | h
      · exact h
      · omega
    · rcases h0 b hb' with h | h
      · exact h
      · omega
  · simp only [List.flatten_append, List.flatten_cons, List.flatten_nil, List.append_nil, List.mem_append] at hb
    rcases hb with hb | hb | (hb | hb) | hb
    · rcases hf' b hb with h | h
      · exact h0 b h
      · exact .inr (Nat.le_trans hWw h)
    · exact hfs b (by simp only [List.flatten_append, List.mem_append]; exact .inr (.inl hb))
    · rcases hf3 b (by simp [hb]) with h | h
      · exact hall b h
      · exact .inr (Nat.le_trans ho.size h)
    · rcases hf3 b (by simp [hb]) with h | h
      · exact hall b h
      · exact .inr (Nat.le_trans ho.size h)
    · exact hfs b (by simp only [List.flatten_append, List.mem_append]; exact .inr (.inr (.inr hb)))
end

/-- Two insertions, each behind its built row, in whatever order. -/
structure InsJ (W : World) (kv cv : Value) (n : Nat) (ks cs : List Value) (yk yp : Value) (L : Nat → Bool) (xs : Nat → Value) (w : World) : Prop where
  all : Only (fun b => (False ∨ kv.ownBlock = some b) ∨ cv.ownBlock = some b) W w
  b1 : L 14 = true → ∃ g, xs 14 = .slice (some ⟨g, 0, none⟩) 1 1 ∧ cellsAt w g [yk] ∧ W.heap.size ≤ g
  b2 : L 23 = true → ∃ g, xs 23 = .slice (some ⟨g, 0, none⟩) 1 1 ∧ cellsAt w g [yp] ∧ W.heap.size ≤ g
  o0 : L 15 = false → Still W w ∧ L 24 = false
  o1 : L 15 = true → L 24 = false → ∃ w0 w1 p c, xs 15 = .slice p (n + 1) c ∧ Turn W (fun _ => False) 1 (n + 1) kv ks (.slice p (n + 1) c) w0 w1 ∧ Still w1 w
  o2 : L 24 = true → L 14 = true ∧ L 23 = true ∧ ∃ w0 w1 w2 p c q e, xs 15 = .slice p (n + 1) c ∧ xs 24 = .slice q (n + 1) e ∧ Turn W (fun _ => False) 1 (n + 1) kv ks (.slice p (n + 1) c) w0 w1 ∧ Still w1 w2 ∧ Turn W (fun b => False ∨ kv.ownBlock = some b) 1 (n + 1) cv cs (.slice q (n + 1) e) w2 w

section
variable {W w w' : World} {kv cv : Value} {n : Nat} {ks cs : List Value} {yk yp : Value} {L : Nat → Bool} {xs : Nat → Value}
theorem InsJ.start (hs : Still W w) (hl : ∀ j ∈ [14, 15, 23, 24], L j = false) : InsJ W kv cv n ks cs yk yp L xs w := by
  refine ⟨hs.only, fun e => ?_, fun e => ?_, fun _ => ⟨hs, hl 24 (by simp)⟩, fun e => ?_, fun e => ?_⟩
  · rw [hl 14 (by simp)] at e; cases e
  · rw [hl 23 (by simp)] at e; cases e
  · rw [hl 15 (by simp)] at e; cases e
  · rw [hl 24 (by simp)] at e; cases e
theorem InsJ.b1' (h : InsJ W kv cv n ks cs yk yp L xs w) (h0 : L 14 = false) (t : TypeId) : InsJ W kv cv n ks cs yk yp (upN L 14 true) (upN xs 14 (.slice (some ⟨w.heap.size, 0, none⟩) 1 1)) (w.alloc (.cells #[yk] t)) := by
  obtain ⟨all, b1, b2, o0, o1, o2⟩ := h
  refine ⟨all.alloc _, fun _ => ⟨_, rfl, cellsAt_new w [yk] t, all.size⟩, fun e => ?_, fun e => ⟨(o0 e).1.alloc _, (o0 e).2⟩, fun e e' => ?_, fun e => ?_⟩
  · obtain ⟨g, h1, h2, h3⟩ := b2 e
    exact ⟨g, h1, h2.alloc _, h3⟩
  · obtain ⟨w0, w1, p, c, h1, h2, h3⟩ := o1 e e'
    exact ⟨w0, w1, p, c, h1, h2, h3.alloc _⟩
  · have := (o2 e).1
    rw [h0] at this
    cases this
theorem InsJ.b2' (h : InsJ W kv cv n ks cs yk yp L xs w) (h0 : L 23 = false) (t : TypeId) : InsJ W kv cv n ks cs yk yp (upN L 23 true) (upN xs 23 (.slice (some ⟨w.heap.size, 0, none⟩) 1 1)) (w.alloc (.cells #[yp] t)) := by
  obtain ⟨all, b1, b2, o0, o1, o2⟩ := h
  refine ⟨all.alloc _, fun e => ?_, fun _ => ⟨_, rfl, cellsAt_new w [yp] t, all.size⟩, fun e => ⟨(o0 e).1.alloc _, (o0 e).2⟩, fun e e' => ?_, fun e => ?_⟩
  · obtain ⟨g, h1, h2, h3⟩ := b1 e
    exact ⟨g, h1, h2.alloc _, h3⟩
  · obtain ⟨w0, w1, p, c, h1, h2, h3⟩ := o1 e e'
    exact ⟨w0, w1, p, c, h1, h2, h3.alloc _⟩
  · have := (o2 e).2.1
    rw [h0] at this
    cases this
theorem InsJ.c1' (h : InsJ W kv cv n ks cs yk yp L xs w) (h0 : L 15 = false) {p : Option Addr} {c : Nat} (T : Turn W (fun _ => False) 1 (n + 1) kv ks (.slice p (n + 1) c) w w') : InsJ W kv cv n ks cs yk yp (upN L 15 true) (upN xs 15 (.slice p (n + 1) c)) w' := by
  obtain ⟨all, b1, b2, o0, o1, o2⟩ := h
  refine ⟨T.only.mono fun _ e => .inl e, fun e => ?_, fun e => ?_, fun e => (by cases e), fun _ _ => ⟨w, w', p, c, rfl, T, Still.refl _⟩, fun e => ?_⟩
  · obtain ⟨g, h1, h2, h3⟩ := b1 e
    exact ⟨g, h1, T.keep _ _ h3 h2, h3⟩
  · obtain ⟨g, h1, h2, h3⟩ := b2 e
    exact ⟨g, h1, T.keep _ _ h3 h2, h3⟩
  · have h1 : L 24 = true := e
    rw [(o0 h0).2] at h1
    cases h1
theorem InsJ.c2' (h : InsJ W kv cv n ks cs yk yp L xs w) (h0 : L 24 = false) (h15 : L 15 = true) (h14 : L 14 = true) (h23 : L 23 = true) {p : Option Addr} {c : Nat} (T : Turn W (fun b => False ∨ kv.ownBlock = some b) 1 (n + 1) cv cs (.slice p (n + 1) c) w w') : InsJ W kv cv n ks cs yk yp (upN L 24 true) (upN xs 24 (.slice p (n + 1) c)) w' := by
  obtain ⟨all, b1, b2, o0, o1, o2⟩ := h
  refine ⟨T.only, fun e => ?_, fun e => ?_, fun e => ?_, fun _ e => (by cases e), fun _ => ⟨h14, h23, ?_⟩⟩
  · obtain ⟨g, h1, h2, h3⟩ := b1 e
    exact ⟨g, h1, T.keep _ _ h3 h2, h3⟩
  · obtain ⟨g, h1, h2, h3⟩ := b2 e
    exact ⟨g, h1, T.keep _ _ h3 h2, h3⟩
  · have h1 : L 15 = false := e
    rw [h15] at h1
    cases h1
  · obtain ⟨w0, w1, q, e, h1, h2, h3⟩ := o1 h15 h0
    exact ⟨w0, w1, w, q, e, p, c, h1, rfl, h2, h3, T⟩
end

/-- The same with the arguments as they are written. -/
theorem del2c' {W : World} {r n kc cc j : Nat} {ka ca : Option Addr} {uv : Value} {ks : List Key} {vs : List Rid} {cs F : List Nat} (hn : NodeAt W r (.slice ka n kc) uv (.slice ca n cc) ks vs cs) (hF : F = foot r (.slice ka n kc) uv (.slice ca n cc) ∧ F.Nodup ∧ ∀ b ∈ F, b < W.heap.size)
    (hk : ks.length = n) (hc : cs.length = n) (h100 : n ≤ 1000) (hj : j + 1 < n) :
    (∀ w', Only (fun _ => False) W w' → Calls Try.prog 34 #[.slice ka n kc, .int .i64 ((j : Int) + 1), .int .i64 ((j : Int) + 2)] w' fun e w2 =>
      ∃ a c, e = .returned (.slice a (n - 1) c) ∧ Turn W (fun _ => False) 1 (n - 1) (.slice ka n kc) (kcells (ks.take (j + 1) ++ ks.drop (j + 1 + 1))) (.slice a (n - 1) c) w' w2) ∧
    (∀ w', Only (fun b => False ∨ (Value.slice ka n kc).ownBlock = some b) W w' → Calls Try.prog 48 #[.slice ca n cc, .int .i64 ((j : Int) + 1), .int .i64 ((j : Int) + 2)] w' fun e w2 =>
      ∃ a c, e = .returned (.slice a (n - 1) c) ∧ Turn W (fun b => False ∨ (Value.slice ka n kc).ownBlock = some b) 1 (n - 1) (.slice ca n cc) (pcells (cs.take (j + 1) ++ cs.drop (j + 1 + 1))) (.slice a (n - 1) c) w' w2) ∧
    (∀ w', Only (fun b => (False ∨ (Value.slice ka n kc).ownBlock = some b) ∨ (Value.slice ca n cc).ownBlock = some b) W w' → w'.cell? ⟨r, 0, none⟩ = some (.slice ka n kc) ∧ w'.cell? ⟨r, 2, none⟩ = some (.slice ca n cc) ∧ w'.frozen? ⟨r, 0, none⟩ = false ∧ w'.frozen? ⟨r, 2, none⟩ = false) := by
  have h := del2c (j := j + 1) hn hF hk hc h100 hj
  have e1 : ((j + 1 : Nat) : Int) = (j : Int) + 1 := by omega
  have e2 : (j : Int) + 1 + 1 = (j : Int) + 2 := by omega
  rw [e1, e2] at h
  exact h
end Go.Proofs.Ytjmkfppnimengaa
