/- Three concatenations that are laid in some order: what each leaves. Conditions: two nodes in memory. The second instance: a place and a second key. Joining two neighbours: what the node is in between, and two insertions that are laid in some order. Conditions: a node of children in memory. The second instance: a place and a second key. -/
import Derived.Test.YtedfijmaeoednaaGreatDoorBx16
namespace Go.Proofs.YtedfijmaeoednaaGreatDoor.Ke
open Go.RowKit Go.Wh

/-- What is there behind some of the six. -/
structure CatJ (W : World) (lk lv lc : List Value) (nk nv nc : Nat) (ks vs cs : List Value) (L : Nat → Bool) (xs : Nat → Value) (w : World) : Prop where
  s : Still W w
  b1 : L 11 = true → Bx w (xs 11) lk
  b2 : L 21 = true → Bx w (xs 21) lv
  b3 : L 31 = true → Bx w (xs 31) lc
  c1 : L 12 = true → Sx W w 1 nk (xs 12) ks
  c2 : L 22 = true → L 12 = true ∧ Sx W w 3 nv (xs 22) vs ∧ Ap (xs 12) (xs 22)
  c3 : L 32 = true → L 12 = true ∧ L 22 = true ∧ Sx W w 1 nc (xs 32) cs ∧ Ap (xs 12) (xs 32) ∧ Ap (xs 22) (xs 32)

section
variable {W w w' : World} {lk lv lc : List Value} {nk nv nc : Nat} {ks vs cs : List Value} {L : Nat → Bool} {xs : Nat → Value}

theorem CatJ.mono (h : CatJ W lk lv lc nk nv nc ks vs cs L xs w) (hs : Still w w') : CatJ W lk lv lc nk nv nc ks vs cs L xs w' :=
  ⟨h.s.trans hs, fun e => (h.b1 e).still hs, fun e => (h.b2 e).still hs, fun e => (h.b3 e).still hs, fun e => (h.c1 e).still hs, fun e => ⟨(h.c2 e).1, (h.c2 e).2.1.still hs, (h.c2 e).2.2⟩,
    fun e => ⟨(h.c3 e).1, (h.c3 e).2.1, (h.c3 e).2.2.1.still hs, (h.c3 e).2.2.2⟩⟩

theorem CatJ.start (hs : Still W w) (hl : ∀ j ∈ [11, 12, 21, 22, 31, 32], L j = false) : CatJ W lk lv lc nk nv nc ks vs cs L xs w := by
  refine ⟨hs, fun e => ?_, fun e => ?_, fun e => ?_, fun e => ?_, fun e => ?_, fun e => ?_⟩
  · rw [hl 11 (by simp)] at e; cases e
  · rw [hl 21 (by simp)] at e; cases e
  · rw [hl 31 (by simp)] at e; cases e
  · rw [hl 12 (by simp)] at e; cases e
  · rw [hl 22 (by simp)] at e; cases e
  · rw [hl 32 (by simp)] at e; cases e

theorem CatJ.b1' (h : CatJ W lk lv lc nk nv nc ks vs cs L xs w) (t : TypeId) : CatJ W lk lv lc nk nv nc ks vs cs (upN L 11 true) (upN xs 11 (.slice (some ⟨w.heap.size, 0, none⟩) 2 2)) (w.alloc (.cells lk.toArray t)) := by
  obtain ⟨s, b1, b2, b3, c1, c2, c3⟩ := h.mono ((Still.refl w).alloc (.cells lk.toArray t))
  exact ⟨s, fun _ => Bx.new w lk t, b2, b3, c1, c2, c3⟩
theorem CatJ.b2' (h : CatJ W lk lv lc nk nv nc ks vs cs L xs w) (t : TypeId) : CatJ W lk lv lc nk nv nc ks vs cs (upN L 21 true) (upN xs 21 (.slice (some ⟨w.heap.size, 0, none⟩) 2 2)) (w.alloc (.cells lv.toArray t)) := by
  obtain ⟨s, b1, b2, b3, c1, c2, c3⟩ := h.mono ((Still.refl w).alloc (.cells lv.toArray t))
  exact ⟨s, b1, fun _ => Bx.new w lv t, b3, c1, c2, c3⟩
theorem CatJ.b3' (h : CatJ W lk lv lc nk nv nc ks vs cs L xs w) (t : TypeId) : CatJ W lk lv lc nk nv nc ks vs cs (upN L 31 true) (upN xs 31 (.slice (some ⟨w.heap.size, 0, none⟩) 2 2)) (w.alloc (.cells lc.toArray t)) := by
  obtain ⟨s, b1, b2, b3, c1, c2, c3⟩ := h.mono ((Still.refl w).alloc (.cells lc.toArray t))
  exact ⟨s, b1, b2, fun _ => Bx.new w lc t, c1, c2, c3⟩
theorem CatJ.c1' (h : CatJ W lk lv lc nk nv nc ks vs cs L xs w) (h0 : L 12 = false) {p : Option Addr} {c : Nat} (hf : Fre w w' 1 nk (.slice p nk c) ks) : CatJ W lk lv lc nk nv nc ks vs cs (upN L 12 true) (upN xs 12 (.slice p nk c)) w' := by
  have hx := Sx.of h.s hf
  obtain ⟨s, b1, b2, b3, c1, c2, c3⟩ := h.mono hf.still
  exact ⟨s, b1, b2, b3, fun _ => hx, fun e => (by have := (c2 e).1; rw [h0] at this; cases this), fun e => (by have := (c3 e).1; rw [h0] at this; cases this)⟩
theorem CatJ.c2' (h : CatJ W lk lv lc nk nv nc ks vs cs L xs w) (h0 : L 22 = false) (h1 : L 12 = true) {p : Option Addr} {c : Nat} (hf : Fre w w' 3 nv (.slice p nv c) vs) : CatJ W lk lv lc nk nv nc ks vs cs (upN L 22 true) (upN xs 22 (.slice p nv c)) w' := by
  have hx := Sx.of h.s hf
  have ha := Ap.of (h.c1 h1) hf
  obtain ⟨s, b1, b2, b3, c1, c2, c3⟩ := h.mono hf.still
  exact ⟨s, b1, b2, b3, c1, fun _ => ⟨h1, hx, ha⟩, fun e => (by have := (c3 e).2.1; rw [h0] at this; cases this)⟩
theorem CatJ.c3' (h : CatJ W lk lv lc nk nv nc ks vs cs L xs w) (h1 : L 12 = true) (h2 : L 22 = true) {p : Option Addr} {c : Nat} (hf : Fre w w' 1 nc (.slice p nc c) cs) : CatJ W lk lv lc nk nv nc ks vs cs (upN L 32 true) (upN xs 32 (.slice p nc c)) w' := by
  have hx := Sx.of h.s hf
  have ha := Ap.of (h.c1 h1) hf
  have hb := Ap.of (h.c2 h2).2.1 hf
  obtain ⟨s, b1, b2, b3, c1, c2, c3⟩ := h.mono hf.still
  exact ⟨s, b1, b2, b3, c1, c2, fun _ => ⟨h1, h2, hx, ha, hb⟩⟩
end

/-- Three new slices are stored. -/
theorem cat_end {W w3 : World} {r n m p : Nat} {kv vv cv v1 v2 v3 : Value} {ks ks' : List Key} {vs vs' : List Rid} {cs cs' F : List Nat} (hn : NodeAt W r kv vv cv ks vs cs) (hF : F = foot r kv vv cv ∧ F.Nodup ∧ ∀ b ∈ F, b < W.heap.size) (hs : Still W w3)
    (K : Sx W w3 1 n v1 (kcells ks')) (V : Sx W w3 3 m v2 (rcells vs')) (C : Sx W w3 1 p v3 (pcells cs')) (a12 : Ap v1 v2) (a13 : Ap v1 v3) (a23 : Ap v2 v3) (h1 : n = ks'.length) (h2 : m = vs'.length) (h3 : p = cs'.length) :
    CatPost W r ks' vs' cs' F (((w3.setCell ⟨r, 0, none⟩ v1).setCell ⟨r, 1, none⟩ v2).setCell ⟨r, 2, none⟩ v3) := by
  subst h1 h2 h3
  have hr : r < W.heap.size := hF.2.2 r (hF.1 ▸ mem_foot.2 (.inl rfl))
  have o1 := K.2.2
  have o2 := V.2.2
  have o3 := C.2.2
  have q1 : v1.ownBlock ≠ some r := fun e => by have := o1 r e; omega
  have q2 : v2.ownBlock ≠ some r := fun e => by have := o2 r e; omega
  have q3 : v3.ownBlock ≠ some r := fun e => by have := o3 r e; omega
  have c3 : cellsAt w3 r [kv, vv, cv] := hn.cells.only hs fun e => e
  have c4 : cellsAt (((w3.setCell ⟨r, 0, none⟩ v1).setCell ⟨r, 1, none⟩ v2).setCell ⟨r, 2, none⟩ v3) r [v1, v2, v3] := ((c3.setCell 0 v1).setCell 1 v2).setCell 2 v3
  have hrF : r ∈ F := hF.1 ▸ mem_foot.2 (.inl rfl)
  have ho : Only (fun b => b ∈ F) W (((w3.setCell ⟨r, 0, none⟩ v1).setCell ⟨r, 1, none⟩ v2).setCell ⟨r, 2, none⟩ v3) := ((hs.only.setCell (p := ⟨r, 0, none⟩) (.inl hrF) v1).setCell (p := ⟨r, 1, none⟩) (.inl hrF) v2).setCell (p := ⟨r, 2, none⟩) (.inl hrF) v3
  have hz : (((w3.setCell ⟨r, 0, none⟩ v1).setCell ⟨r, 1, none⟩ v2).setCell ⟨r, 2, none⟩ v3).heap.size = w3.heap.size := by simp [World.setCell]
  have hA' : Apt r v1 v2 v3 :=
    ⟨fun b hb e => by subst e; exact q1 hb, fun b hb e => by subst e; exact q2 hb, fun b hb e => by subst e; exact q3 hb, a12, a13, a23⟩
  refine ⟨_, Raw.of ⟨c4, vec_set (vec_set (vec_set K.2.1 (p := ⟨r, 0, none⟩) q1 _) (p := ⟨r, 1, none⟩) q1 _) (p := ⟨r, 2, none⟩) q1 _, vec_set (vec_set (vec_set V.2.1 (p := ⟨r, 0, none⟩) q2 _) (p := ⟨r, 1, none⟩) q2 _) (p := ⟨r, 2, none⟩) q2 _,
    vec_set (vec_set (vec_set C.2.1 (p := ⟨r, 0, none⟩) q3 _) (p := ⟨r, 1, none⟩) q3 _) (p := ⟨r, 2, none⟩) q3 _⟩ hA' fun b hb => ?_, ho, fun b hb => ?_⟩
  · rw [hz]
    have := hs.size
    rcases mem_foot.1 hb with rfl | h | h | h
    · omega
    · exact (o1 b h).2
    · exact (o2 b h).2
    · exact (o3 b h).2
  · rcases mem_foot.1 hb with rfl | h | h | h
    · exact .inl hrF
    · exact .inr (o1 b h).1
    · exact .inr (o2 b h).1
    · exact .inr (o3 b h).1
end Go.Proofs.YtedfijmaeoednaaGreatDoor.Ke

namespace Go.Proofs.YtedfijmaeoednaaGreatDoor.Ke
open Go.RowKit Go.Wh

section
variable {d : Nat} {W w wc w3 w4 w5 : World} {r a b y j n : Nat} {ks ks' : List Key} {rs qa qb ra rb : List Nat} {cs A B : List (Nd d)} {c c1 c2 : Nd d} {F0 fa fb F' f F1 F2 F : List Nat} {Fs Ga Gb Fa Fb : List (List Nat)}

theorem join_cat (h : Inr d W r ks rs rs cs F0 Fs) (hj : j + 1 < cs.length) (hrs : rs = qa ++ ([a, b] ++ qb)) (hFs : Fs = Ga ++ ([fa, fb] ++ Gb)) (sa : Sons (At d W) qa (cs.take j) Ga) (sb : Sons (At d W) qb (cs.drop (j + 2)) Gb)
    (hat : At d wc a (at' cs j ++ at' cs (j + 1)) F') (ho : Only (fun x => x ∈ fa) W wc) (hs : ∀ x ∈ F', x ∈ fa ++ fb ∨ W.heap.size ≤ x) :
    Inr d wc r ks rs (qa ++ ([a] ++ qb)) (cs.take j ++ ([at' cs j ++ at' cs (j + 1)] ++ cs.drop (j + 2))) F0 (Ga ++ ([F'] ++ Gb)) := by
  subst hrs hFs
  have h1 : Inr d W r ks (qa ++ ([a, b] ++ qb)) (qa ++ ([a, b] ++ qb)) (cs.take j ++ ([at' cs j, at' cs (j + 1)] ++ cs.drop (j + 2))) F0 (Ga ++ ([fa, fb] ++ Gb)) := by
    rw [← at_split2 cs j hj]
    exact h
  exact h1.turn sa sb (Sons.one hat) (by simpa using hat.nodup) (ho.mono fun x hx => by simp [hx]) (fun x hx => by
    have hx' : x ∈ F' := by simpa using hx
    simpa using hs x hx')

/-- Behind the deletion. -/
def JoinMid (d : Nat) (w : World) (r : Nat) (cs : List (Nd d)) (j a n : Nat) (F : List Nat) (w4 : World) : Prop :=
  ∃ ks' rs' F0' Fs', ks'.length = n - 1 ∧ rs'[j]? = some a ∧ Inr d w4 r ks' rs' rs' (cs.take j ++ ([at' cs j ++ at' cs (j + 1)] ++ cs.drop (j + 2))) F0' Fs' ∧ Only (fun b => b ∈ F) w w4 ∧ ∀ b ∈ F0' ++ Fs'.flatten, b ∈ F ∨ w.heap.size ≤ b

theorem join_del {v : Value} {e : Ending} (h : Inr d wc r ks (qa ++ ([a, b] ++ qb)) (qa ++ ([a] ++ qb)) (cs.take j ++ ([at' cs j ++ at' cs (j + 1)] ++ cs.drop (j + 2))) F0 (Ga ++ ([F'] ++ Gb))) (hq : qa.length = j) (hk : ks.length = n) (hjn : j + 1 < n)
    (hp : RawPost wc r (ks.take (j + 1) ++ ks.drop (j + 1 + 1)) [] ((qa ++ ([a, b] ++ qb)).take (j + 1) ++ (qa ++ ([a, b] ++ qb)).drop (j + 1 + 1)) F0 v e w4)
    (hw : Still w W) (hF : F = F0 ++ (Ga ++ ([fa, fb] ++ Gb)).flatten) (ho : Only (fun x => x ∈ fa) W wc) (hs : ∀ x ∈ F', x ∈ fa ++ fb ∨ W.heap.size ≤ x) : JoinMid d w r cs j a n F w4 := by
  obtain ⟨F0', _, hr, ho', hf'⟩ := hp
  have e1 : (qa ++ ([a, b] ++ qb)).take (j + 1) ++ (qa ++ ([a, b] ++ qb)).drop (j + 1 + 1) = qa ++ ([a] ++ qb) := by
    have e2 : qa ++ ([a, b] ++ qb) = (qa ++ [a]) ++ ([b] ++ qb) := by simp
    have e3 : qa ++ ([a, b] ++ qb) = (qa ++ [a, b]) ++ qb := by simp
    rw [show (qa ++ ([a, b] ++ qb)).take (j + 1) = qa ++ [a] by rw [e2]; exact List.take_left' (by simp [hq]), show (qa ++ ([a, b] ++ qb)).drop (j + 1 + 1) = qb by rw [e3]; exact List.drop_left' (by simp [hq])]
    simp
  rw [e1] at hr
  have h4 := h.rawTurn hr ho' hf'
  have hww := Nat.le_trans hw.size ho.size
  refine ⟨_, _, F0', _, by simp; omega, by rw [List.getElem?_append_right (by omega), hq, Nat.sub_self]; rfl, h4, ?_, fun x hx => ?_⟩
  · subst hF
    exact ((hw.only.trans (ho.mono fun x hx => by simp [hx])).andThen ho' fun x _ hx => by simp [hx])
  · subst hF
    simp only [List.flatten_append, List.flatten_cons, List.flatten_nil, List.append_nil, List.mem_append] at hx hs ⊢
    rcases hx with hx | hx | hx | hx
    · rcases hf' x hx with h | h
      · exact .inl (.inl h)
      · exact .inr (Nat.le_trans hww h)
    · exact .inl (.inr (.inl hx))
    · rcases hs x hx with h | h
      · exact .inl (.inr (.inr (.inl h)))
      · exact .inr (Nat.le_trans hw.size h)
    · exact .inl (.inr (.inr (.inr hx)))

theorem join_small {i : Nat} {e : Ending} (h : JoinMid d w r cs j a n F w4) (hc : ¬ (2 ≤ (at' cs i).length ∨ cs.length < 2)) (hij : i - 1 = j) (hn : cs.length = n) (hjn : j + 1 < n) (h4 : (at' cs j ++ at' cs (j + 1)).length ≤ 4) (he : e = .returned (.tuple #[])) (hs : Still w4 w5) : JoinPost d w r cs i F e w5 := by
  obtain ⟨ks', rs', F0', Fs', hk, _, hin, ho, hf⟩ := h
  have ej : joinC cs i = cs.take j ++ ([at' cs j ++ at' cs (j + 1)] ++ cs.drop (j + 2)) := by
    unfold joinC halves
    rw [if_neg hc, hij, if_pos h4]
  refine ⟨ks', rs', F0', Fs', he, by rw [ej]; exact hin.still hs, ?_, ho.trans hs.only, hf⟩
  rw [ej, hk]
  simp
  omega

theorem join_split (h : Inr d w4 r ks' (ra ++ ([a] ++ rb)) (ra ++ ([a] ++ rb)) (A ++ ([c] ++ B)) F0 (Fa ++ ([f] ++ Fb))) (sa : Sons (At d w4) ra A Fa) (sb : Sons (At d w4) rb B Fb)
    (h1 : At d w3 a c1 F1) (h2 : At d w3 y c2 F2) (ho : Only (fun b => b ∈ f) w4 w3) (hn : (F1 ++ F2).Nodup) (hf : ∀ b ∈ F1 ++ F2, b ∈ f ∨ w4.heap.size ≤ b) :
    Inr d w3 r ks' (ra ++ ([a] ++ rb)) (ra ++ ([a, y] ++ rb)) (A ++ ([c1, c2] ++ B)) F0 (Fa ++ ([F1, F2] ++ Fb)) :=
  h.turn sa sb (Sons.cons h1 (Sons.one h2)) (by simpa using hn) (ho.mono fun x hx => by simp [hx]) (fun x hx => by
    have hx' : x ∈ F1 ++ F2 := by simpa using hx
    simpa using hf x hx')

theorem join_great {i : Nat} {e : Ending} {v : Value} {k : Key} (h : Inr d w3 r ks' (ra ++ ([a] ++ rb)) (ra ++ ([a, y] ++ rb)) (cs.take j ++ ([c1, c2] ++ cs.drop (j + 2))) F0 (Fa ++ ([F1, F2] ++ Fb))) (hra : ra.length = j) (hk : ks'.length = n - 1)
    (hp : RawPost w3 r (ks'.take (j + 1) ++ k :: ks'.drop (j + 1)) [] ((ra ++ ([a] ++ rb)).take (j + 1) ++ y :: (ra ++ ([a] ++ rb)).drop (j + 1)) F0 v e w5) (he : e = .returned (.tuple #[]))
    (hc : ¬ (2 ≤ (at' cs i).length ∨ cs.length < 2)) (hij : i - 1 = j) (hn : cs.length = n) (hjn : j + 1 < n) (hh : halves (at' cs j ++ at' cs (j + 1)) = [c1, c2])
    (ho : Only (fun b => b ∈ F) w w4) (hfs : ∀ b ∈ F0 ++ (Fa ++ ([f] ++ Fb)).flatten, b ∈ F ∨ w.heap.size ≤ b) (ho3 : Only (fun b => b ∈ f) w4 w3) (hf3 : ∀ b ∈ F1 ++ F2, b ∈ f ∨ w4.heap.size ≤ b) : JoinPost d w r cs i F e w5 := by
  obtain ⟨F0', _, hr, ho', hf'⟩ := hp
  have e1 : (ra ++ ([a] ++ rb)).take (j + 1) ++ y :: (ra ++ ([a] ++ rb)).drop (j + 1) = ra ++ ([a, y] ++ rb) := by
    rw [← List.append_assoc, List.take_left' (by simp [hra]), List.drop_left' (by simp [hra])]
    simp
  rw [e1] at hr
  have h4 := h.rawTurn hr ho' hf'
  have ej : joinC cs i = cs.take j ++ ([c1, c2] ++ cs.drop (j + 2)) := by
    unfold joinC
    rw [if_neg hc, hij, hh]
  have hWw : w.heap.size ≤ w3.heap.size := Nat.le_trans ho.size ho3.size
  have hall : ∀ b, b ∈ f → b ∈ F ∨ w.heap.size ≤ b := fun b hb => hfs b (by simp [hb])
  have h0 : ∀ b, b ∈ F0 → b ∈ F ∨ w.heap.size ≤ b := fun b hb => hfs b (by simp [hb])
  refine ⟨_, _, F0', _, he, by rw [ej]; exact h4, ?_, ?_, fun b hb => ?_⟩
  · rw [ej]
    simp
    omega
  · refine (ho.andThen ho3 fun b hb hb' => ?_).andThen ho' fun b hb hb' => ?_
    · rcases hall b hb' with h | h
      · exact h
      · omega
    · rcases h0 b hb' with h | h
      · exact h
      · omega
  · simp only [List.flatten_append, List.flatten_cons, List.flatten_nil, List.append_nil, List.mem_append] at hb
    rcases hb with hb | hb | (hb | hb) | hb
    · rcases hf' b hb with h | h
      · exact h0 b h
      · exact .inr (Nat.le_trans hWw h)
    · exact hfs b (by simp only [List.flatten_append, List.mem_append]; exact .inr (.inl hb))
    · rcases hf3 b (by simp [hb]) with h | h
      · exact hall b h
      · exact .inr (Nat.le_trans ho.size h)
    · rcases hf3 b (by simp [hb]) with h | h
      · exact hall b h
      · exact .inr (Nat.le_trans ho.size h)
    · exact hfs b (by simp only [List.flatten_append, List.mem_append]; exact .inr (.inr (.inr hb)))
end

section
variable {W w w' : World} {kv cv : Value} {n : Nat} {ks cs : List Value} {yk yp : Value} {L : Nat → Bool} {xs : Nat → Value}
end

/-- The same with the arguments as they are written. -/
theorem del2c' {W : World} {r n kc cc j : Nat} {ka ca : Option Addr} {uv : Value} {ks : List Key} {vs : List Rid} {cs F : List Nat} (hn : NodeAt W r (.slice ka n kc) uv (.slice ca n cc) ks vs cs) (hF : F = foot r (.slice ka n kc) uv (.slice ca n cc) ∧ F.Nodup ∧ ∀ b ∈ F, b < W.heap.size)
    (hk : ks.length = n) (hc : cs.length = n) (h100 : n ≤ 1000) (hj : j + 1 < n) :
    (∀ w', Only (fun _ => False) W w' → Calls Tryz.prog 60 #[.slice ka n kc, .int .i64 ((j : Int) + 1), .int .i64 ((j : Int) + 2)] w' fun e w2 =>
      ∃ a c, e = .returned (.slice a (n - 1) c) ∧ Turn W (fun _ => False) 1 (n - 1) (.slice ka n kc) (kcells (ks.take (j + 1) ++ ks.drop (j + 1 + 1))) (.slice a (n - 1) c) w' w2) ∧
    (∀ w', Only (fun b => False ∨ (Value.slice ka n kc).ownBlock = some b) W w' → Calls Tryz.prog 87 #[.slice ca n cc, .int .i64 ((j : Int) + 1), .int .i64 ((j : Int) + 2)] w' fun e w2 =>
      ∃ a c, e = .returned (.slice a (n - 1) c) ∧ Turn W (fun b => False ∨ (Value.slice ka n kc).ownBlock = some b) 1 (n - 1) (.slice ca n cc) (pcells (cs.take (j + 1) ++ cs.drop (j + 1 + 1))) (.slice a (n - 1) c) w' w2) ∧
    (∀ w', Only (fun b => (False ∨ (Value.slice ka n kc).ownBlock = some b) ∨ (Value.slice ca n cc).ownBlock = some b) W w' → w'.cell? ⟨r, 0, none⟩ = some (.slice ka n kc) ∧ w'.cell? ⟨r, 2, none⟩ = some (.slice ca n cc) ∧ w'.frozen? ⟨r, 0, none⟩ = false ∧ w'.frozen? ⟨r, 2, none⟩ = false) := by
  have h := del2c (j := j + 1) hn hF hk hc h100 hj
  have e1 : ((j + 1 : Nat) : Int) = (j : Int) + 1 := by omega
  have e2 : (j : Int) + 1 + 1 = (j : Int) + 2 := by omega
  rw [e1, e2] at h
  exact h
end Go.Proofs.YtedfijmaeoednaaGreatDoor.Ke
