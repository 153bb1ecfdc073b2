/- What a cell says. Conditions: it lies in memory. -/
import Derived.Test.YtlcfoeikamkpmaaGreatPr18
namespace Go.Proofs.YtlcfoeikamkpmaaGreat
open Go.RowKit Go.Wh Go.Maps

def ksC (l : List Int) : ByteArray := strOfNums (partT l 1 8)
def ssC (l : List Int) : ByteArray := strOfNums (partT l 10 6)
def vsC (l : List Int) : ByteArray := strOfNums (partT l 17 8)
def n1C (l : List Int) : Int := l.getD 1 0
def n2C (l : List Int) : Int := l.getD 2 0
def RdC (l : List Int) : Int × (ByteArray × ByteArray × ByteArray) × (Int × Int) × Int :=
 if l = [] ∨ (l.length = 26 ∧ nought l = true) then (0, (⟨#[]⟩, ⟨#[]⟩, ⟨#[]⟩), (0, 0), 0)
 else if ¬ l.length = 26 then (0, (⟨#[]⟩, ⟨#[]⟩, ⟨#[]⟩), (0, 0), 4)
 else if (rowMay (ksC l) (ssC l) (vsC l) && decide (l = rowB (ksC l) (ssC l) (vsC l))) = true then (1, (ksC l, ssC l, vsC l), (0, 0), 0)
 else if (stubMay (n1C l) (n2C l) && decide (l = stubB (n1C l) (n2C l))) = true then (2, (⟨#[]⟩, ⟨#[]⟩, ⟨#[]⟩), (n1C l, n2C l), 0)
 else (0, (⟨#[]⟩, ⟨#[]⟩, ⟨#[]⟩), (0, 0), 4)
theorem txt_str {l : List Int} (h : Byt l) : txt (strOfNums l) = l := by
 unfold txt
 rw [strOfNums_data]
 induction l with
 | nil => rfl
 | cons x l ih =>
  have hx := h x (by simp)
  have := ih fun z hz => h z (by simp [hz])
  simp only [List.map_cons, UInt8.toNat_ofNat'] at this ⊢
  rw [this]
  congr 1
  omega
theorem str_size (l : List Int) : (strOfNums l).size = l.length := by
 have h : (strOfNums l).data.toList.length = l.length := by rw [strOfNums_data, List.length_map]
 rw [Array.length_toList] at h
 exact h
theorem partT_byt {l : List Int} (h : Byt l) (i m : Nat) : Byt (partT l i m) := (h.drop _).take _
theorem partT_len (l : List Int) (i m : Nat) : (partT l i m).length ≤ m := by
 unfold partT
 rw [List.length_take]
 omega
theorem padB_byt {a : List Int} {k : Nat} (h : Byt a) (hl : a.length ≤ 100) : Byt (padB (strOfNums a) k) := by
 unfold padB
 rw [txt_str h, str_size]
 intro z hz
 rcases List.mem_append.1 hz with hz | hz
 · rcases List.mem_cons.1 hz with rfl | hz
   · omega
   · exact h z hz
 · rw [List.eq_of_mem_replicate hz]
   omega
theorem rowB_byt (l : List Int) (h : Byt l) : Byt (rowB (ksC l) (ssC l) (vsC l)) := by
 intro z hz
 unfold rowB ksC ssC vsC at hz
 have h1 := partT_len l 1 8
 have h2 := partT_len l 10 6
 have h3 := partT_len l 17 8
 rcases List.mem_cons.1 hz with rfl | hz
 · omega
 rcases List.mem_append.1 hz with hz | hz
 · rcases List.mem_append.1 hz with hz | hz
   · exact padB_byt (partT_byt h _ _) (by omega) z hz
   · exact padB_byt (partT_byt h _ _) (by omega) z hz
 · exact padB_byt (partT_byt h _ _) (by omega) z hz
def rdV (r : Int × (ByteArray × ByteArray × ByteArray) × (Int × Int) × Int) : Value := .tuple #[.int .i64 r.1, .agg #[.string r.2.1.1, .string r.2.1.2.1, .string r.2.1.2.2], .agg #[.int .i64 r.2.2.1.1, .int .i64 r.2.2.1.2], .int .i64 r.2.2.2]
def RcPost (w : World) (l : List Int) (e : Ending) (w' : World) : Prop := e = .returned (rdV (RdC l)) ∧ Still w w'
theorem size_row : (Tryz.prog.info? 60).map (·.size) = some 3 := by kernel_rfl
theorem size_rid : (Tryz.prog.info? 64).map (·.size) = some 2 := by kernel_rfl
theorem exec_load3 {w : World} {b : Nat} {l : List Value} {ev : Operand → Value} {oi : Oper} {x : Operand} (ho : oi.op = .load 60 x) (hx : ev x = .pointer (some ⟨b, 0, none⟩)) (h : cellsAt w b l) (hl : l.length = 3) : (execOp ev oi).run Tryz.prog w = .ok (.value (.agg l.toArray)) w := by
 unfold execOp
 have e := run_loadAt_mid w b 0 60 l _ (fun j v hj => by rw [Nat.zero_add, h.cell j]; exact hj) Tryz.underlying60 rfl (by rw [hl]; exact size_row)
 simp only [ho, hx, Sem.run_bind, Sem.run_pure, e, Result.andThen_ok]
theorem exec_load2 {w : World} {b : Nat} {l : List Value} {ev : Operand → Value} {oi : Oper} {x : Operand} (ho : oi.op = .load 64 x) (hx : ev x = .pointer (some ⟨b, 0, none⟩)) (h : cellsAt w b l) (hl : l.length = 2) : (execOp ev oi).run Tryz.prog w = .ok (.value (.agg l.toArray)) w := by
 unfold execOp
 have e := run_loadAt_mid w b 0 64 l _ (fun j v hj => by rw [Nat.zero_add, h.cell j]; exact hj) Tryz.underlying64 rfl (by rw [hl]; exact size_rid)
 simp only [ho, hx, Sem.run_bind, Sem.run_pure, e, Result.andThen_ok]
set_option maxHeartbeats 4000000 in
set_option maxRecDepth 100000 in
theorem cread_any {Q : Nat → Prop} (w : World) (v : Value) (n : Nat) (l : List Int) (h : Sl w Q 1 v n (bc l)) (hc : Cap n v) (hb : Byt l) (hn : n ≤ 100000) :
 Calls Tryz.prog 97 #[v] w (RcPost w l) := by
 have hln : l.length = n := by have := h.1; rw [bc_length] at this; omega
 obtain ⟨a, c, rfl⟩ := h.form
 have HH := Lib.hid (And.intro h (And.intro hc (And.intro hb (And.intro hn hln))))
 have HZ := Lib.hid (fun tt tt2 => show Still w ((w.alloc (.cells #[.string ⟨#[]⟩, .string ⟨#[]⟩, .string ⟨#[]⟩] tt)).alloc (.cells #[.int .i64 0, .int .i64 0] tt2)) ∧ cellsAt ((w.alloc (.cells #[.string ⟨#[]⟩, .string ⟨#[]⟩, .string ⟨#[]⟩] tt)).alloc (.cells #[.int .i64 0, .int .i64 0] tt2)) w.heap.size [.string ⟨#[]⟩, .string ⟨#[]⟩, .string ⟨#[]⟩] ∧ cellsAt ((w.alloc (.cells #[.string ⟨#[]⟩, .string ⟨#[]⟩, .string ⟨#[]⟩] tt)).alloc (.cells #[.int .i64 0, .int .i64 0] tt2)) (w.heap.size + 1) [.int .i64 0, .int .i64 0] from by
  have hz : (w.alloc (.cells #[.string ⟨#[]⟩, .string ⟨#[]⟩, .string ⟨#[]⟩] tt)).heap.size = w.heap.size + 1 := by simp
  refine ⟨((Still.refl w).alloc _).alloc _, (cellsAt_new w [.string ⟨#[]⟩, .string ⟨#[]⟩, .string ⟨#[]⟩] tt).alloc _, ?_⟩
  have := cellsAt_new (w.alloc (.cells #[.string ⟨#[]⟩, .string ⟨#[]⟩, .string ⟨#[]⟩] tt)) [.int .i64 0, .int .i64 0] tt2
  rw [hz] at this
  exact this)
 clear h hc hb
 go_enter Tryz.func97, Tryz.ntmps97
 go_upto_region 1 with fail
 have hz := HZ.out 60 64
 clear HZ
 generalize ((w.alloc (.cells #[.string ⟨#[]⟩, .string ⟨#[]⟩, .string ⟨#[]⟩] 60)).alloc (.cells #[.int .i64 0, .int .i64 0] 64)) = w1 at *
 obtain ⟨bR, hb1⟩ : ∃ b, w.heap.size = b := ⟨_, rfl⟩
 obtain ⟨bT, hb2⟩ : ∃ b, w.heap.size + 1 = b := ⟨_, rfl⟩
 rw [hb2, hb1] at hz
 rw [hb2, hb1]
 have H1 := Lib.hid (And.intro hz (And.intro hb1 hb2))
 clear hz hb1 hb2
 by_cases h0 : n = 0
 · subst h0
   have F := Lib.hid (show RdC l = (0, (⟨#[]⟩, ⟨#[]⟩, ⟨#[]⟩), (0, 0), 0) from by
    unfold RdC
    rw [if_pos (.inl (List.eq_nil_of_length_eq_zero hln))])
   have HSS := Lib.hid (show cellsAt w1 bR [.string ⟨#[]⟩, .string ⟨#[]⟩, .string ⟨#[]⟩] ∧ cellsAt w1 bT [.int .i64 0, .int .i64 0] from H1.out.1.2)
   have HW := Lib.hid H1.out.1.1
   go_upto_region 2 with fail
   refine wp_region_D_drew (D := (fun i => false)) (S := (fun w' => (∃ lR, lR.length = 3 ∧ cellsAt w' bR lR ∧ lR = [.string ⟨#[]⟩, .string ⟨#[]⟩, .string ⟨#[]⟩]) ∧ ∃ lT, lT.length = 2 ∧ cellsAt w' bT lT ∧ lT = [.int .i64 0, .int .i64 0])) (by kernel_rfl) ?_ (fun hHeld => ?_)
   · exact ⟨⟨_, rfl, HSS.out.1.only (still_drew _) fun e => e, rfl⟩, ⟨_, rfl, HSS.out.2.only (still_drew _) fun e => e, rfl⟩⟩
   have hstl : Still w w1.drew := HW.out.drew
   generalize w1.drew = wa at *
   (refine takeS (i := 0) (some 26) (v := .agg #[.string ⟨#[]⟩, .string ⟨#[]⟩, .string ⟨#[]⟩]) rfl (by rfl) (by rfl) (by kernel_rfl) (by rfl) (fun _ _ _ h => h) hHeld ?_ ?_; (intro w hSw; obtain ⟨lX, -, hcX, rfl⟩ := hSw.1; exact exec_load3 rfl rfl hcX rfl); try go_frame)
   (refine takeS (i := 1) (some 27) (v := .agg #[.int .i64 0, .int .i64 0]) rfl (by rfl) (by rfl) (by kernel_rfl) (by rfl) (fun _ _ _ h => h) hHeld ?_ ?_; (intro w hSw; obtain ⟨lX, -, hcX, rfl⟩ := hSw.2; exact exec_load2 rfl rfl hcX rfl); try go_frame)
   refine wpAnyD_ready (rs := [2]) (by kernel_rfl) (by simp) ?_
   refine ReadyD.cons rfl (fun K hK => ?_) ReadyD.nil
   go_simp
   refine hK.out _ _ hHeld (fun hNew => ?_)
   clear hNew
   (clear hK K; try go_frame)
   refine wpAnyD_ready (rs := [3]) (by kernel_rfl) (by simp) ?_
   refine ReadyD.cons rfl (fun K hK => ?_) ReadyD.nil
   rw [if_pos (by rfl)]
   obtain ⟨⟨lR, hlR, hcR, hkR⟩, ⟨lT, hlT, hcT, hkT⟩⟩ := hHeld
   refine wp_store_mid 60 _ _ rfl bR 0 #[.string ⟨#[]⟩, .string ⟨#[]⟩, .string ⟨#[]⟩] rfl rfl (cellsAt.there0 hcR _ hlR) size_row (by rw [← Array.all_toList]; rfl) ?_
   have hcR3 := cellsAt.over hcR (#[.string ⟨#[]⟩, .string ⟨#[]⟩, .string ⟨#[]⟩] : Array Value).toList hlR
   have hcT3 := hcT.only (setCells_only wa bR 0 (#[.string ⟨#[]⟩, .string ⟨#[]⟩, .string ⟨#[]⟩] : Array Value).toList) (fun e => by have := H1.out.2; have e' : bT = bR := e; omega)
   have hst3 : Still w (wa.setCells bR 0 (#[.string ⟨#[]⟩, .string ⟨#[]⟩, .string ⟨#[]⟩] : Array Value).toList) := hstl.andThen (setCells_only wa bR 0 _) fun g hg e => by have := H1.out.2; have e' : g = bR := e; omega
   generalize wa.setCells bR 0 (#[.string ⟨#[]⟩, .string ⟨#[]⟩, .string ⟨#[]⟩] : Array Value).toList = wb at *
   refine hK.out _ _ ⟨⟨_, rfl, hcR3, rfl⟩, ⟨lT, hlT, hcT3, hkT⟩⟩ (fun hNew => ?_)
   clear hNew
   (clear hK K; try go_frame)
   refine wpAnyD_ready (rs := [4]) (by kernel_rfl) (by simp) ?_
   refine ReadyD.cons rfl (fun K hK => ?_) ReadyD.nil
   rw [if_pos (by rfl)]
   refine wp_store_mid 64 _ _ rfl bT 0 #[.int .i64 0, .int .i64 0] rfl rfl (cellsAt.there0 hcT3 _ hlT) size_rid (by rw [← Array.all_toList]; rfl) ?_
   have hcT4 := cellsAt.over hcT3 (#[.int .i64 0, .int .i64 0] : Array Value).toList hlT
   have hcR4 := hcR3.only (setCells_only wb bT 0 (#[.int .i64 0, .int .i64 0] : Array Value).toList) (fun e => by have := H1.out.2; have e' : bR = bT := e; omega)
   have hst4 : Still w (wb.setCells bT 0 (#[.int .i64 0, .int .i64 0] : Array Value).toList) := hst3.andThen (setCells_only wb bT 0 _) fun g hg e => by have := H1.out.2; have e' : g = bT := e; omega
   generalize wb.setCells bT 0 (#[.int .i64 0, .int .i64 0] : Array Value).toList = wd at *
   refine hK.out _ _ ⟨⟨_, rfl, hcR4, rfl⟩, ⟨_, rfl, hcT4, rfl⟩⟩ (fun hNew => ?_)
   (clear hK K; try go_frame)
   refine wpAnyD_ready (rs := [5]) (by kernel_rfl) (by simp) ?_
   refine ReadyD.cons rfl (fun K hK => ?_) ReadyD.nil
   go_simp
   refine hK.out _ _ hNew (fun hNew2 => ?_)
   clear hNew hNew2
   (clear hK K; try go_frame)
   refine wpAnyD_done (by kernel_rfl) ?_ _
   have z0 : wd.cell? ⟨bR, 0, none⟩ = some (.string ⟨#[]⟩) := hcR4.cell 0
   have z1 : wd.cell? ⟨bR, 1, none⟩ = some (.string ⟨#[]⟩) := hcR4.cell 1
   have z2 : wd.cell? ⟨bR, 2, none⟩ = some (.string ⟨#[]⟩) := hcR4.cell 2
   have y0 : wd.cell? ⟨bT, 0, none⟩ = some (.int .i64 0) := hcT4.cell 0
   have y1 : wd.cell? ⟨bT, 1, none⟩ = some (.int .i64 0) := hcT4.cell 1
   have F2 := Lib.hid (show RcPost w l (.returned (.tuple #[.int .i64 0, .agg #[.string ⟨#[]⟩, .string ⟨#[]⟩, .string ⟨#[]⟩], .agg #[.int .i64 0, .int .i64 0], .int .i64 0])) wd from ⟨by rw [F.out]; rfl, hst4⟩)
   clear hcR hcT hcR3 hcT3 hcR4 hcT4 hst3 hst4 hstl F hkR hkT
   go_wp2_with fail
   exact bodyPost_ret (v := .tuple #[.int .i64 0, .agg #[.string ⟨#[]⟩, .string ⟨#[]⟩, .string ⟨#[]⟩], .agg #[.int .i64 0, .int .i64 0], .int .i64 0]) (by simp [results, Tryz.results97, go_sem, z0, z1, z2, y0, y1]) rfl F2.out
 by_cases h26 : n = 26
 rotate_left
 · have F := Lib.hid (show RdC l = (0, (⟨#[]⟩, ⟨#[]⟩, ⟨#[]⟩), (0, 0), 4) from by
    unfold RdC
    rw [if_neg (fun e => by
     rcases e with e | e
     · rw [e] at hln
       exact h0 hln.symm
     · exact h26 (hln.symm.trans e.1)), if_pos (by omega)])
   have HSS := Lib.hid (show cellsAt w1 bR [.string ⟨#[]⟩, .string ⟨#[]⟩, .string ⟨#[]⟩] ∧ cellsAt w1 bT [.int .i64 0, .int .i64 0] from H1.out.1.2)
   have HW := Lib.hid H1.out.1.1
   have e1 : ¬ (n : Int) = 0 := by omega
   have e2 : ¬ (n : Int) = 26 := by omega
   have e3 : ((n : Int) == 0) = false := beq_eq_false_iff_ne.2 e1
   have e4 : ((n : Int) == 26) = false := beq_eq_false_iff_ne.2 e2
   have e5 : ((n : Int) != 26) = true := bne_iff_ne.2 e2
   go_upto_region 4 with fail
   refine wp_region_D_drew (D := (fun i => false)) (S := (fun w' => (∃ lR, lR.length = 3 ∧ cellsAt w' bR lR ∧ lR = [.string ⟨#[]⟩, .string ⟨#[]⟩, .string ⟨#[]⟩]) ∧ ∃ lT, lT.length = 2 ∧ cellsAt w' bT lT ∧ lT = [.int .i64 0, .int .i64 0])) (by kernel_rfl) ?_ (fun hHeld => ?_)
   · exact ⟨⟨_, rfl, HSS.out.1.only (still_drew _) fun e => e, rfl⟩, ⟨_, rfl, HSS.out.2.only (still_drew _) fun e => e, rfl⟩⟩
   have hstl : Still w w1.drew := HW.out.drew
   generalize w1.drew = wa at *
   (refine takeS (i := 0) (some 31) (v := .agg #[.string ⟨#[]⟩, .string ⟨#[]⟩, .string ⟨#[]⟩]) rfl (by rfl) (by rfl) (by kernel_rfl) (by rfl) (fun _ _ _ h => h) hHeld ?_ ?_; (intro w hSw; obtain ⟨lX, -, hcX, rfl⟩ := hSw.1; exact exec_load3 rfl rfl hcX rfl); try go_frame)
   (refine takeS (i := 1) (some 32) (v := .agg #[.int .i64 0, .int .i64 0]) rfl (by rfl) (by rfl) (by kernel_rfl) (by rfl) (fun _ _ _ h => h) hHeld ?_ ?_; (intro w hSw; obtain ⟨lX, -, hcX, rfl⟩ := hSw.2; exact exec_load2 rfl rfl hcX rfl); try go_frame)
   refine wpAnyD_ready (rs := [2]) (by kernel_rfl) (by simp) ?_
   refine ReadyD.cons rfl (fun K hK => ?_) ReadyD.nil
   go_simp
   refine hK.out _ _ hHeld (fun hNew => ?_)
   clear hNew
   (clear hK K; try go_frame)
   refine wpAnyD_ready (rs := [3]) (by kernel_rfl) (by simp) ?_
   refine ReadyD.cons rfl (fun K hK => ?_) ReadyD.nil
   rw [if_pos (by rfl)]
   obtain ⟨⟨lR, hlR, hcR, hkR⟩, ⟨lT, hlT, hcT, hkT⟩⟩ := hHeld
   refine wp_store_mid 60 _ _ rfl bR 0 #[.string ⟨#[]⟩, .string ⟨#[]⟩, .string ⟨#[]⟩] rfl rfl (cellsAt.there0 hcR _ hlR) size_row (by rw [← Array.all_toList]; rfl) ?_
   have hcR3 := cellsAt.over hcR (#[.string ⟨#[]⟩, .string ⟨#[]⟩, .string ⟨#[]⟩] : Array Value).toList hlR
   have hcT3 := hcT.only (setCells_only wa bR 0 (#[.string ⟨#[]⟩, .string ⟨#[]⟩, .string ⟨#[]⟩] : Array Value).toList) (fun e => by have := H1.out.2; have e' : bT = bR := e; omega)
   have hst3 : Still w (wa.setCells bR 0 (#[.string ⟨#[]⟩, .string ⟨#[]⟩, .string ⟨#[]⟩] : Array Value).toList) := hstl.andThen (setCells_only wa bR 0 _) fun g hg e => by have := H1.out.2; have e' : g = bR := e; omega
   generalize wa.setCells bR 0 (#[.string ⟨#[]⟩, .string ⟨#[]⟩, .string ⟨#[]⟩] : Array Value).toList = wb at *
   refine hK.out _ _ ⟨⟨_, rfl, hcR3, rfl⟩, ⟨lT, hlT, hcT3, hkT⟩⟩ (fun hNew => ?_)
   clear hNew
   (clear hK K; try go_frame)
   refine wpAnyD_ready (rs := [4]) (by kernel_rfl) (by simp) ?_
   refine ReadyD.cons rfl (fun K hK => ?_) ReadyD.nil
   rw [if_pos (by rfl)]
   refine wp_store_mid 64 _ _ rfl bT 0 #[.int .i64 0, .int .i64 0] rfl rfl (cellsAt.there0 hcT3 _ hlT) size_rid (by rw [← Array.all_toList]; rfl) ?_
   have hcT4 := cellsAt.over hcT3 (#[.int .i64 0, .int .i64 0] : Array Value).toList hlT
   have hcR4 := hcR3.only (setCells_only wb bT 0 (#[.int .i64 0, .int .i64 0] : Array Value).toList) (fun e => by have := H1.out.2; have e' : bR = bT := e; omega)
   have hst4 : Still w (wb.setCells bT 0 (#[.int .i64 0, .int .i64 0] : Array Value).toList) := hst3.andThen (setCells_only wb bT 0 _) fun g hg e => by have := H1.out.2; have e' : g = bT := e; omega
   generalize wb.setCells bT 0 (#[.int .i64 0, .int .i64 0] : Array Value).toList = wd at *
   refine hK.out _ _ ⟨⟨_, rfl, hcR4, rfl⟩, ⟨_, rfl, hcT4, rfl⟩⟩ (fun hNew => ?_)
   (clear hK K; try go_frame)
   refine wpAnyD_ready (rs := [5]) (by kernel_rfl) (by simp) ?_
   refine ReadyD.cons rfl (fun K hK => ?_) ReadyD.nil
   go_simp
   refine hK.out _ _ hNew (fun hNew2 => ?_)
   clear hNew hNew2
   (clear hK K; try go_frame)
   refine wpAnyD_done (by kernel_rfl) ?_ _
   have z0 : wd.cell? ⟨bR, 0, none⟩ = some (.string ⟨#[]⟩) := hcR4.cell 0
   have z1 : wd.cell? ⟨bR, 1, none⟩ = some (.string ⟨#[]⟩) := hcR4.cell 1
   have z2 : wd.cell? ⟨bR, 2, none⟩ = some (.string ⟨#[]⟩) := hcR4.cell 2
   have y0 : wd.cell? ⟨bT, 0, none⟩ = some (.int .i64 0) := hcT4.cell 0
   have y1 : wd.cell? ⟨bT, 1, none⟩ = some (.int .i64 0) := hcT4.cell 1
   have F2 := Lib.hid (show RcPost w l (.returned (.tuple #[.int .i64 0, .agg #[.string ⟨#[]⟩, .string ⟨#[]⟩, .string ⟨#[]⟩], .agg #[.int .i64 0, .int .i64 0], .int .i64 4])) wd from ⟨by rw [F.out]; rfl, hst4⟩)
   clear hcR hcT hcR3 hcT3 hcR4 hcT4 hst3 hst4 hstl F hkR hkT
   go_wp2_with fail
   exact bodyPost_ret (v := .tuple #[.int .i64 0, .agg #[.string ⟨#[]⟩, .string ⟨#[]⟩, .string ⟨#[]⟩], .agg #[.int .i64 0, .int .i64 0], .int .i64 4]) (by simp [results, Tryz.results97, go_sem, z0, z1, z2, y0, y1]) rfl F2.out
 subst h26
 clear h0
 obtain ⟨C, hC⟩ : ∃ C, Go.Lib.countByte (Go.Lib.bytesOf l) 0 = C := ⟨_, rfl⟩
 have HCN := Lib.hid (count0_any (w1.alloc (.cells #[.int .u8 0] 5)) (.slice a 26 c) 26 l (HH.out.1.still (H1.out.1.1.trans ((Still.refl _).alloc _))) (by decide) w1.heap.size (cellsAt_new w1 [.int .u8 0] 5))
 rw [hC] at HCN
 obtain ⟨q, hq⟩ : ∃ q, nought l = q := ⟨_, rfl⟩
 have hCq : ((C : Int) == 26) = q := by
  rw [← hq, ← count_nought HH.out.2.2.1, hC, hln]
  rfl
 have HQ := Lib.hid hq
 clear hC hq
 cases q with
 | true =>
  have F := Lib.hid (show RdC l = (0, (⟨#[]⟩, ⟨#[]⟩, ⟨#[]⟩), (0, 0), 0) from by
   unfold RdC
   rw [if_pos (.inr ⟨hln, HQ.out⟩)])
  have HSS := Lib.hid (show cellsAt (w1.alloc (.cells #[.int .u8 0] 5)) bR [.string ⟨#[]⟩, .string ⟨#[]⟩, .string ⟨#[]⟩] ∧ cellsAt (w1.alloc (.cells #[.int .u8 0] 5)) bT [.int .i64 0, .int .i64 0] from ⟨H1.out.1.2.1.alloc _, H1.out.1.2.2.alloc _⟩)
  have HW := Lib.hid (show Still w (w1.alloc (.cells #[.int .u8 0] 5)) from H1.out.1.1.alloc _)
  go_wp2_with fail
  refine HCN.out.mono ?_
  rintro e w2 ⟨rfl, rfl⟩
  generalize (w1.alloc (.cells #[.int .u8 0] 5)) = w2 at *
  go_upto_region 2 with fail
  refine wp_region_D_drew (D := (fun i => false)) (S := (fun w' => (∃ lR, lR.length = 3 ∧ cellsAt w' bR lR ∧ lR = [.string ⟨#[]⟩, .string ⟨#[]⟩, .string ⟨#[]⟩]) ∧ ∃ lT, lT.length = 2 ∧ cellsAt w' bT lT ∧ lT = [.int .i64 0, .int .i64 0])) (by kernel_rfl) ?_ (fun hHeld => ?_)
  · exact ⟨⟨_, rfl, HSS.out.1.only (still_drew _) fun e => e, rfl⟩, ⟨_, rfl, HSS.out.2.only (still_drew _) fun e => e, rfl⟩⟩
  have hstl : Still w w2.drew := HW.out.drew
  generalize w2.drew = wa at *
  (refine takeS (i := 0) (some 26) (v := .agg #[.string ⟨#[]⟩, .string ⟨#[]⟩, .string ⟨#[]⟩]) rfl (by rfl) (by rfl) (by kernel_rfl) (by rfl) (fun _ _ _ h => h) hHeld ?_ ?_; (intro w hSw; obtain ⟨lX, -, hcX, rfl⟩ := hSw.1; exact exec_load3 rfl rfl hcX rfl); try go_frame)
  (refine takeS (i := 1) (some 27) (v := .agg #[.int .i64 0, .int .i64 0]) rfl (by rfl) (by rfl) (by kernel_rfl) (by rfl) (fun _ _ _ h => h) hHeld ?_ ?_; (intro w hSw; obtain ⟨lX, -, hcX, rfl⟩ := hSw.2; exact exec_load2 rfl rfl hcX rfl); try go_frame)
  refine wpAnyD_ready (rs := [2]) (by kernel_rfl) (by simp) ?_
  refine ReadyD.cons rfl (fun K hK => ?_) ReadyD.nil
  go_simp
  refine hK.out _ _ hHeld (fun hNew => ?_)
  clear hNew
  (clear hK K; try go_frame)
  refine wpAnyD_ready (rs := [3]) (by kernel_rfl) (by simp) ?_
  refine ReadyD.cons rfl (fun K hK => ?_) ReadyD.nil
  rw [if_pos (by rfl)]
  obtain ⟨⟨lR, hlR, hcR, hkR⟩, ⟨lT, hlT, hcT, hkT⟩⟩ := hHeld
  refine wp_store_mid 60 _ _ rfl bR 0 #[.string ⟨#[]⟩, .string ⟨#[]⟩, .string ⟨#[]⟩] rfl rfl (cellsAt.there0 hcR _ hlR) size_row (by rw [← Array.all_toList]; rfl) ?_
  have hcR3 := cellsAt.over hcR (#[.string ⟨#[]⟩, .string ⟨#[]⟩, .string ⟨#[]⟩] : Array Value).toList hlR
  have hcT3 := hcT.only (setCells_only wa bR 0 (#[.string ⟨#[]⟩, .string ⟨#[]⟩, .string ⟨#[]⟩] : Array Value).toList) (fun e => by have := H1.out.2; have e' : bT = bR := e; omega)
  have hst3 : Still w (wa.setCells bR 0 (#[.string ⟨#[]⟩, .string ⟨#[]⟩, .string ⟨#[]⟩] : Array Value).toList) := hstl.andThen (setCells_only wa bR 0 _) fun g hg e => by have := H1.out.2; have e' : g = bR := e; omega
  generalize wa.setCells bR 0 (#[.string ⟨#[]⟩, .string ⟨#[]⟩, .string ⟨#[]⟩] : Array Value).toList = wb at *
  refine hK.out _ _ ⟨⟨_, rfl, hcR3, rfl⟩, ⟨lT, hlT, hcT3, hkT⟩⟩ (fun hNew => ?_)
  clear hNew
  (clear hK K; try go_frame)
  refine wpAnyD_ready (rs := [4]) (by kernel_rfl) (by simp) ?_
  refine ReadyD.cons rfl (fun K hK => ?_) ReadyD.nil
  rw [if_pos (by rfl)]
  refine wp_store_mid 64 _ _ rfl bT 0 #[.int .i64 0, .int .i64 0] rfl rfl (cellsAt.there0 hcT3 _ hlT) size_rid (by rw [← Array.all_toList]; rfl) ?_
  have hcT4 := cellsAt.over hcT3 (#[.int .i64 0, .int .i64 0] : Array Value).toList hlT
  have hcR4 := hcR3.only (setCells_only wb bT 0 (#[.int .i64 0, .int .i64 0] : Array Value).toList) (fun e => by have := H1.out.2; have e' : bR = bT := e; omega)
  have hst4 : Still w (wb.setCells bT 0 (#[.int .i64 0, .int .i64 0] : Array Value).toList) := hst3.andThen (setCells_only wb bT 0 _) fun g hg e => by have := H1.out.2; have e' : g = bT := e; omega
  generalize wb.setCells bT 0 (#[.int .i64 0, .int .i64 0] : Array Value).toList = wd at *
  refine hK.out _ _ ⟨⟨_, rfl, hcR4, rfl⟩, ⟨_, rfl, hcT4, rfl⟩⟩ (fun hNew => ?_)
  (clear hK K; try go_frame)
  refine wpAnyD_ready (rs := [5]) (by kernel_rfl) (by simp) ?_
  refine ReadyD.cons rfl (fun K hK => ?_) ReadyD.nil
  go_simp
  refine hK.out _ _ hNew (fun hNew2 => ?_)
  clear hNew hNew2
  (clear hK K; try go_frame)
  refine wpAnyD_done (by kernel_rfl) ?_ _
  have z0 : wd.cell? ⟨bR, 0, none⟩ = some (.string ⟨#[]⟩) := hcR4.cell 0
  have z1 : wd.cell? ⟨bR, 1, none⟩ = some (.string ⟨#[]⟩) := hcR4.cell 1
  have z2 : wd.cell? ⟨bR, 2, none⟩ = some (.string ⟨#[]⟩) := hcR4.cell 2
  have y0 : wd.cell? ⟨bT, 0, none⟩ = some (.int .i64 0) := hcT4.cell 0
  have y1 : wd.cell? ⟨bT, 1, none⟩ = some (.int .i64 0) := hcT4.cell 1
  have F2 := Lib.hid (show RcPost w l (.returned (.tuple #[.int .i64 0, .agg #[.string ⟨#[]⟩, .string ⟨#[]⟩, .string ⟨#[]⟩], .agg #[.int .i64 0, .int .i64 0], .int .i64 0])) wd from ⟨by rw [F.out]; rfl, hst4⟩)
  clear hcR hcT hcR3 hcT3 hcR4 hcT4 hst3 hst4 hstl F hkR hkT
  go_wp2_with fail
  exact bodyPost_ret (v := .tuple #[.int .i64 0, .agg #[.string ⟨#[]⟩, .string ⟨#[]⟩, .string ⟨#[]⟩], .agg #[.int .i64 0, .int .i64 0], .int .i64 0]) (by simp [results, Tryz.results97, go_sem, z0, z1, z2, y0, y1]) rfl F2.out
 | false =>
  have HSS := Lib.hid (show cellsAt (w1.alloc (.cells #[.int .u8 0] 5)) bR [.string ⟨#[]⟩, .string ⟨#[]⟩, .string ⟨#[]⟩] ∧ cellsAt (w1.alloc (.cells #[.int .u8 0] 5)) bT [.int .i64 0, .int .i64 0] from ⟨H1.out.1.2.1.alloc _, H1.out.1.2.2.alloc _⟩)
  have HW := Lib.hid (show Still w (w1.alloc (.cells #[.int .u8 0] 5)) from H1.out.1.1.alloc _)
  go_wp2_with fail
  refine HCN.out.mono ?_
  rintro e w2 ⟨rfl, rfl⟩
  generalize (w1.alloc (.cells #[.int .u8 0] 5)) = w2 at *
  have hsl := HH.out.1.still HW.out
  have HP1 := Lib.hid (show Calls Tryz.prog 144 #[.slice a 26 c, .int .i64 1, .int .i64 8] w2 (SamePost w2 (.string (ksC l))) from part_any w2 _ l hsl HH.out.2.1 HH.out.2.2.1 1 8 (by decide))
  have HP2 := Lib.hid (show Calls Tryz.prog 144 #[.slice a 26 c, .int .i64 10, .int .i64 6] w2 (SamePost w2 (.string (ssC l))) from part_any w2 _ l hsl HH.out.2.1 HH.out.2.2.1 10 6 (by decide))
  have HP3 := Lib.hid (show Calls Tryz.prog 144 #[.slice a 26 c, .int .i64 17, .int .i64 8] w2 (SamePost w2 (.string (vsC l))) from part_any w2 _ l hsl HH.out.2.1 HH.out.2.2.1 17 8 (by decide))
  obtain ⟨ks, hks⟩ : ∃ x, ksC l = x := ⟨_, rfl⟩
  obtain ⟨ss, hss⟩ : ∃ x, ssC l = x := ⟨_, rfl⟩
  obtain ⟨vs, hvs⟩ : ∃ x, vsC l = x := ⟨_, rfl⟩
  rw [hks] at HP1
  rw [hss] at HP2
  rw [hvs] at HP3
  have HK := Lib.hid (And.intro hks (And.intro hss hvs))
  clear hsl hks hss hvs HCN
  go_upto_region 5 with fail
  go_wp2_with fail
  refine HP1.out.mono ?_
  rintro e w3 ⟨rfl, rfl⟩
  go_wp2_with fail
  refine HP2.out.mono ?_
  rintro e w4 ⟨rfl, rfl⟩
  go_wp2_with fail
  refine HP3.out.mono ?_
  rintro e w2 ⟨rfl, rfl⟩
  have HC5 := Lib.hid HSS.out.1
  go_upto_region 6 with ((with_reducible (show wpList _ _ _ ({ dst := none, op := Op.store 60 _ _, type := _, pos := _, after := _, guard := _ } :: _) _ _)); (refine wpList_storeAgg rfl 60 _ _ rfl bR #[.string ks, .string ss, .string vs] rfl rfl HC5.out size_row rfl rfl ?_; intro w3 hcf hof hzf; have H3 := Lib.hid (And.intro hcf (And.intro hof hzf)); clear hcf hof hzf))
  have HSS3 := Lib.hid (show cellsAt w3 bR [.string ks, .string ss, .string vs] ∧ cellsAt w3 bT [.int .i64 0, .int .i64 0] from ⟨H3.out.1, HSS.out.2.only H3.out.2.1 fun e => by have := H1.out.2; have e' : bT = bR := e; omega⟩)
  have HW3 := Lib.hid (show Still w w3 from HW.out.andThen H3.out.2.1 fun g hg e => by have := H1.out.2; have e' : g = bR := e; omega)
  clear HSS HW HC5 H3 HP1 HP2 HP3
  have HRW := Lib.hid (crow_any w3 ks ss vs)
  go_wp2_with ((with_reducible (show wpList _ _ _ ({ dst := some 41, op := _, type := _, pos := _, after := _, guard := _ } :: _) _ _)); (refine wpList_loadAgg rfl 60 _ rfl bR #[.string ks, .string ss, .string vs] rfl HSS3.out.1 _ Tryz.underlying60 rfl size_row ?_))
  refine HRW.out.mono ?_
  intro e w4 hp
  unfold CrPost at hp
  by_cases hm : rowMay ks ss vs = true
  · rw [if_pos hm] at hp
    obtain ⟨v4, rfl, k1, k2, k3⟩ := hp
    have HSS := Lib.hid (show cellsAt w4 bR [.string ks, .string ss, .string vs] ∧ cellsAt w4 bT [.int .i64 0, .int .i64 0] from ⟨HSS3.out.1.only k2 fun e => e, HSS3.out.2.only k2 fun e => e⟩)
    have HW := Lib.hid (HW3.out.trans k2)
    have hby : Byt (rowB ks ss vs) := by rw [← HK.out.1, ← HK.out.2.1, ← HK.out.2.2]; exact rowB_byt l HH.out.2.2.1
    have HEQ := Lib.hid (equal_any w4 (.slice a 26 c) v4 26 26 l (rowB ks ss vs) (HH.out.1.still HW.out) (Vec.sl0 k1 (by decide)) HH.out.2.2.1 hby)
    obtain ⟨q, hq⟩ : ∃ q, decide (l = rowB ks ss vs) = q := ⟨_, rfl⟩
    rw [hq] at HEQ
    obtain ⟨a4, c4, rfl⟩ := k1.form'
    have HMQ := Lib.hid (And.intro hm hq)
    clear k1 k2 k3 hby hm hq HRW HSS3 HW3
    go_wp2_with fail
    refine HEQ.out.mono ?_
    rintro e w5 ⟨rfl, rfl⟩
    cases q with
    | true =>
     have F := Lib.hid (show RdC l = (1, (ks, ss, vs), (0, 0), 0) from by
      unfold RdC
      rw [HK.out.1, HK.out.2.1, HK.out.2.2, if_neg (fun e => by
       rcases e with e | e
       · rw [e] at hln
         cases hln
       · rw [HQ.out] at e
         cases e.2), if_neg (fun e => e hln), if_pos (by rw [HMQ.out.1, HMQ.out.2]; rfl)])
     clear HEQ
     go_upto_region 8 with fail
     refine wp_region_D_drew (D := (fun i => false)) (S := (fun w' => (∃ lR, lR.length = 3 ∧ cellsAt w' bR lR ∧ lR = [.string ks, .string ss, .string vs]) ∧ ∃ lT, lT.length = 2 ∧ cellsAt w' bT lT ∧ lT = [.int .i64 0, .int .i64 0])) (by kernel_rfl) ?_ (fun hHeld => ?_)
     · exact ⟨⟨_, rfl, HSS.out.1.only (still_drew _) fun e => e, rfl⟩, ⟨_, rfl, HSS.out.2.only (still_drew _) fun e => e, rfl⟩⟩
     have hstl : Still w w5.drew := HW.out.drew
     generalize w5.drew = wa at *
     (refine takeS (i := 0) (some 52) (v := .agg #[.string ks, .string ss, .string vs]) rfl (by rfl) (by rfl) (by kernel_rfl) (by rfl) (fun _ _ _ h => h) hHeld ?_ ?_; (intro w hSw; obtain ⟨lX, -, hcX, rfl⟩ := hSw.1; exact exec_load3 rfl rfl hcX rfl); try go_frame)
     (refine takeS (i := 1) (some 53) (v := .agg #[.int .i64 0, .int .i64 0]) rfl (by rfl) (by rfl) (by kernel_rfl) (by rfl) (fun _ _ _ h => h) hHeld ?_ ?_; (intro w hSw; obtain ⟨lX, -, hcX, rfl⟩ := hSw.2; exact exec_load2 rfl rfl hcX rfl); try go_frame)
     refine wpAnyD_ready (rs := [2]) (by kernel_rfl) (by simp) ?_
     refine ReadyD.cons rfl (fun K hK => ?_) ReadyD.nil
     go_simp
     refine hK.out _ _ hHeld (fun hNew => ?_)
     clear hNew
     (clear hK K; try go_frame)
     refine wpAnyD_ready (rs := [3]) (by kernel_rfl) (by simp) ?_
     refine ReadyD.cons rfl (fun K hK => ?_) ReadyD.nil
     rw [if_pos (by rfl)]
     obtain ⟨⟨lR, hlR, hcR, hkR⟩, ⟨lT, hlT, hcT, hkT⟩⟩ := hHeld
     refine wp_store_mid 60 _ _ rfl bR 0 #[.string ks, .string ss, .string vs] rfl rfl (cellsAt.there0 hcR _ hlR) size_row (by rw [← Array.all_toList]; rfl) ?_
     have hcR3 := cellsAt.over hcR (#[.string ks, .string ss, .string vs] : Array Value).toList hlR
     have hcT3 := hcT.only (setCells_only wa bR 0 (#[.string ks, .string ss, .string vs] : Array Value).toList) (fun e => by have := H1.out.2; have e' : bT = bR := e; omega)
     have hst3 : Still w (wa.setCells bR 0 (#[.string ks, .string ss, .string vs] : Array Value).toList) := hstl.andThen (setCells_only wa bR 0 _) fun g hg e => by have := H1.out.2; have e' : g = bR := e; omega
     generalize wa.setCells bR 0 (#[.string ks, .string ss, .string vs] : Array Value).toList = wb at *
     refine hK.out _ _ ⟨⟨_, rfl, hcR3, rfl⟩, ⟨lT, hlT, hcT3, hkT⟩⟩ (fun hNew => ?_)
     clear hNew
     (clear hK K; try go_frame)
     refine wpAnyD_ready (rs := [4]) (by kernel_rfl) (by simp) ?_
     refine ReadyD.cons rfl (fun K hK => ?_) ReadyD.nil
     rw [if_pos (by rfl)]
     refine wp_store_mid 64 _ _ rfl bT 0 #[.int .i64 0, .int .i64 0] rfl rfl (cellsAt.there0 hcT3 _ hlT) size_rid (by rw [← Array.all_toList]; rfl) ?_
     have hcT4 := cellsAt.over hcT3 (#[.int .i64 0, .int .i64 0] : Array Value).toList hlT
     have hcR4 := hcR3.only (setCells_only wb bT 0 (#[.int .i64 0, .int .i64 0] : Array Value).toList) (fun e => by have := H1.out.2; have e' : bR = bT := e; omega)
     have hst4 : Still w (wb.setCells bT 0 (#[.int .i64 0, .int .i64 0] : Array Value).toList) := hst3.andThen (setCells_only wb bT 0 _) fun g hg e => by have := H1.out.2; have e' : g = bT := e; omega
     generalize wb.setCells bT 0 (#[.int .i64 0, .int .i64 0] : Array Value).toList = wd at *
     refine hK.out _ _ ⟨⟨_, rfl, hcR4, rfl⟩, ⟨_, rfl, hcT4, rfl⟩⟩ (fun hNew => ?_)
     (clear hK K; try go_frame)
     refine wpAnyD_ready (rs := [5]) (by kernel_rfl) (by simp) ?_
     refine ReadyD.cons rfl (fun K hK => ?_) ReadyD.nil
     go_simp
     refine hK.out _ _ hNew (fun hNew2 => ?_)
     clear hNew hNew2
     (clear hK K; try go_frame)
     refine wpAnyD_done (by kernel_rfl) ?_ _
     have z0 : wd.cell? ⟨bR, 0, none⟩ = some (.string ks) := hcR4.cell 0
     have z1 : wd.cell? ⟨bR, 1, none⟩ = some (.string ss) := hcR4.cell 1
     have z2 : wd.cell? ⟨bR, 2, none⟩ = some (.string vs) := hcR4.cell 2
     have y0 : wd.cell? ⟨bT, 0, none⟩ = some (.int .i64 0) := hcT4.cell 0
     have y1 : wd.cell? ⟨bT, 1, none⟩ = some (.int .i64 0) := hcT4.cell 1
     have F2 := Lib.hid (show RcPost w l (.returned (.tuple #[.int .i64 1, .agg #[.string ks, .string ss, .string vs], .agg #[.int .i64 0, .int .i64 0], .int .i64 0])) wd from ⟨by rw [F.out]; rfl, hst4⟩)
     clear hcR hcT hcR3 hcT3 hcR4 hcT4 hst3 hst4 hstl F hkR hkT
     go_wp2_with fail
     exact bodyPost_ret (v := .tuple #[.int .i64 1, .agg #[.string ks, .string ss, .string vs], .agg #[.int .i64 0, .int .i64 0], .int .i64 0]) (by simp [results, Tryz.results97, go_sem, z0, z1, z2, y0, y1]) rfl F2.out
    | false =>
     have HNR := Lib.hid (show ¬ (rowMay (ksC l) (ssC l) (vsC l) && decide (l = rowB (ksC l) (ssC l) (vsC l))) = true from by
      rw [HK.out.1, HK.out.2.1, HK.out.2.2, HMQ.out.2, Bool.and_false]
      decide)
     clear HEQ
     go_upto_region 9 with fail
     obtain ⟨n1, hn1⟩ : ∃ x, n1C l = x := ⟨_, rfl⟩
     obtain ⟨n2, hn2⟩ : ∃ x, n2C l = x := ⟨_, rfl⟩
     have HN := Lib.hid (And.intro hn1 hn2)
     have hl1 : l[1]? = some n1 := by
      rw [← hn1]
      unfold n1C
      rw [List.getD_eq_getElem?_getD, List.getElem?_eq_getElem (by omega)]
      rfl
     have hl2 : l[2]? = some n2 := by
      rw [← hn2]
      unfold n2C
      rw [List.getD_eq_getElem?_getD, List.getElem?_eq_getElem (by omega)]
      rfl
     have hx1 := HH.out.2.2.1 n1 (List.mem_of_getElem? hl1)
     have hx2 := HH.out.2.2.1 n2 (List.mem_of_getElem? hl2)
     obtain ⟨g, o, c', e, -, hgl, hcs⟩ := HH.out.1.pos (by decide)
     cases e
     have p1 : w5.cell? ⟨g, o + 1, none⟩ = some (.int .u8 n1) := Still.cell HW.out (hcs 1 _ (bc_get hl1))
     have p2 : w5.cell? ⟨g, o + 2, none⟩ = some (.int .u8 n2) := Still.cell HW.out (hcs 2 _ (bc_get hl2))
     have v1 : wrap64 n1 = n1 := IntWalk.wrap64_in n1 ⟨by omega, by omega⟩
     have v2 : wrap64 n2 = n2 := IntWalk.wrap64_in n2 ⟨by omega, by omega⟩
     have v3 : IntKind.i64.wrap n1 = n1 := IntWalk.i64_in _ (by omega)
     have v4 : IntKind.i64.wrap n2 = n2 := IntWalk.i64_in _ (by omega)
     have t0 : w5.cell? ⟨bT, 0, none⟩ = some (.int .i64 0) := HSS.out.2.cell 0
     have t1 : w5.cell? ⟨bT, 1, none⟩ = some (.int .i64 0) := HSS.out.2.cell 1
     have f0 : w5.frozen? ⟨bT, 0, none⟩ = false := HSS.out.2.free 0
     have f1 : w5.frozen? ⟨bT, 1, none⟩ = false := HSS.out.2.free 1
     have hgW : g < w5.heap.size := lt_of_cell p1
     have SSP := Lib.hid (fun w' (ho : Only (fun x => x = bT) w5 w') => show w'.cell? ⟨g, o + 1, none⟩ = some (.int .u8 n1) ∧ w'.cell? ⟨g, o + 2, none⟩ = some (.int .u8 n2) from
      ⟨(ho.cell (p := ⟨g, o + 1, none⟩) hgW (fun e => by have := H1.out.2; have e' : g = bT := e; omega)).trans p1, (ho.cell (p := ⟨g, o + 2, none⟩) hgW (fun e => by have := H1.out.2; have e' : g = bT := e; omega)).trans p2⟩)
     have o0 : Only (fun x => x = bT) w5 w5 := Only.refl _ _
     have o1 : Only (fun x => x = bT) w5 (w5.setCell ⟨bT, 0, none⟩ (.int .i64 n1)) := o0.setCell (p := ⟨bT, 0, none⟩) (.inl rfl) _
     have o2 : Only (fun x => x = bT) w5 ((w5.setCell ⟨bT, 0, none⟩ (.int .i64 n1)).setCell ⟨bT, 1, none⟩ (.int .i64 n2)) := o1.setCell (p := ⟨bT, 1, none⟩) (.inl rfl) _
     have HO := Lib.hid (And.intro o0.drew o2.drew)
     clear hn1 hn2 hl1 hl2 hgl hcs hgW o0 o1 o2
     go_region_held3 (fun w' => w'.cell? ⟨g, o + 1, none⟩ = some (.int .u8 n1) ∧ w'.cell? ⟨g, o + 2, none⟩ = some (.int .u8 n2)) (first | exact SSP.out _ HO.out.1 | exact SSP.out _ HO.out.2) (fail)
     have HSS7 := Lib.hid (show cellsAt ((w5.setCell ⟨bT, 0, none⟩ (.int .i64 n1)).setCell ⟨bT, 1, none⟩ (.int .i64 n2)).drew bR [.string ks, .string ss, .string vs] ∧ cellsAt ((w5.setCell ⟨bT, 0, none⟩ (.int .i64 n1)).setCell ⟨bT, 1, none⟩ (.int .i64 n2)).drew bT [.int .i64 n1, .int .i64 n2] from
      ⟨HSS.out.1.only HO.out.2 fun e => by have := H1.out.2; have e' : bR = bT := e; omega, (HSS.out.2.setCell 0 (.int .i64 n1)).setCell 1 (.int .i64 n2)⟩)
     have HW7 := Lib.hid (show Still w ((w5.setCell ⟨bT, 0, none⟩ (.int .i64 n1)).setCell ⟨bT, 1, none⟩ (.int .i64 n2)).drew from HW.out.andThen HO.out.2 fun x hx e => by have := H1.out.2; have e' : x = bT := e; omega)
     clear HSS HW HO SSP p1 p2 t0 t1 f0 f1
     generalize ((w5.setCell ⟨bT, 0, none⟩ (.int .i64 n1)).setCell ⟨bT, 1, none⟩ (.int .i64 n2)).drew = w7 at *
     have HST := Lib.hid (cstub_any w7 n1 n2)
     go_wp2_with ((with_reducible (show wpList _ _ _ ({ dst := some 64, op := _, type := _, pos := _, after := _, guard := _ } :: _) _ _)); (refine wpList_loadAgg rfl 64 _ rfl bT #[.int .i64 n1, .int .i64 n2] rfl HSS7.out.2 _ Tryz.underlying64 rfl size_rid ?_))
     refine HST.out.mono ?_
     intro e w8 hp
     unfold CsPost at hp
     by_cases hm2 : stubMay n1 n2 = true
     · rw [if_pos hm2] at hp
       obtain ⟨v8, rfl, k1, k2, k3⟩ := hp
       have HSS := Lib.hid (show cellsAt w8 bR [.string ks, .string ss, .string vs] ∧ cellsAt w8 bT [.int .i64 n1, .int .i64 n2] from ⟨HSS7.out.1.only k2 fun e => e, HSS7.out.2.only k2 fun e => e⟩)
       have HW := Lib.hid (HW7.out.trans k2)
       have hby : Byt (stubB n1 n2) := by
        intro z hz
        unfold stubB at hz
        rcases List.mem_cons.1 hz with rfl | hz
        · omega
        rcases List.mem_cons.1 hz with rfl | hz
        · exact hx1
        rcases List.mem_cons.1 hz with rfl | hz
        · exact hx2
        · rw [List.eq_of_mem_replicate hz]
          omega
       have HEQ := Lib.hid (equal_any w8 (.slice (some ⟨g, o, none⟩) 26 c) v8 26 26 l (stubB n1 n2) (HH.out.1.still HW.out) (Vec.sl0 k1 (by decide)) HH.out.2.2.1 hby)
       obtain ⟨q, hq⟩ : ∃ q, decide (l = stubB n1 n2) = q := ⟨_, rfl⟩
       rw [hq] at HEQ
       obtain ⟨a8, c8, rfl⟩ := k1.form'
       have HMQ2 := Lib.hid (And.intro hm2 hq)
       clear k1 k2 k3 hby hm2 hq HST HSS7 HW7
       go_wp2_with fail
       refine HEQ.out.mono ?_
       rintro e w9 ⟨rfl, rfl⟩
       cases q with
       | true =>
        have F := Lib.hid (show RdC l = (2, (⟨#[]⟩, ⟨#[]⟩, ⟨#[]⟩), (n1, n2), 0) from by
         unfold RdC
         rw [HN.out.1, HN.out.2, if_neg (fun e => by
          rcases e with e | e
          · rw [e] at hln
            cases hln
          · rw [HQ.out] at e
            cases e.2), if_neg (fun e => e hln), if_neg HNR.out, if_pos (by rw [HMQ2.out.1, HMQ2.out.2]; rfl)])
        clear HEQ
        go_upto_region 12 with fail
        refine wp_region_D_drew (D := (fun i => false)) (S := (fun w' => (∃ lR, lR.length = 3 ∧ cellsAt w' bR lR ) ∧ ∃ lT, lT.length = 2 ∧ cellsAt w' bT lT ∧ lT = [.int .i64 n1, .int .i64 n2])) (by kernel_rfl) ?_ (fun hHeld => ?_)
        · exact ⟨⟨_, rfl, HSS.out.1.only (still_drew _) fun e => e⟩, ⟨_, rfl, HSS.out.2.only (still_drew _) fun e => e, rfl⟩⟩
        have hstl : Still w w9.drew := HW.out.drew
        generalize w9.drew = wa at *
        (refine takeS (i := 0) (some 75) (v := ?_) rfl (by rfl) (by rfl) (by kernel_rfl) (by rfl) (fun _ _ _ h => h) hHeld ?_ ?_; rotate_left; (intro w hSw; go_simp; try with_reducible rfl); try go_frame)
        (refine takeS (i := 1) (some 76) (v := .agg #[.int .i64 n1, .int .i64 n2]) rfl (by rfl) (by rfl) (by kernel_rfl) (by rfl) (fun _ _ _ h => h) hHeld ?_ ?_; (intro w hSw; obtain ⟨lX, -, hcX, rfl⟩ := hSw.2; exact exec_load2 rfl rfl hcX rfl); try go_frame)
        refine wpAnyD_ready (rs := [2]) (by kernel_rfl) (by simp) ?_
        refine ReadyD.cons rfl (fun K hK => ?_) ReadyD.nil
        go_simp
        refine hK.out _ _ hHeld (fun hNew => ?_)
        clear hNew
        (clear hK K; try go_frame)
        refine wpAnyD_ready (rs := [3]) (by kernel_rfl) (by simp) ?_
        refine ReadyD.cons rfl (fun K hK => ?_) ReadyD.nil
        rw [if_pos (by rfl)]
        obtain ⟨⟨lR, hlR, hcR⟩, ⟨lT, hlT, hcT, hkT⟩⟩ := hHeld
        refine wp_store_mid 60 _ _ rfl bR 0 #[.string ⟨#[]⟩, .string ⟨#[]⟩, .string ⟨#[]⟩] rfl rfl (cellsAt.there0 hcR _ hlR) size_row (by rw [← Array.all_toList]; rfl) ?_
        have hcR3 := cellsAt.over hcR (#[.string ⟨#[]⟩, .string ⟨#[]⟩, .string ⟨#[]⟩] : Array Value).toList hlR
        have hcT3 := hcT.only (setCells_only wa bR 0 (#[.string ⟨#[]⟩, .string ⟨#[]⟩, .string ⟨#[]⟩] : Array Value).toList) (fun e => by have := H1.out.2; have e' : bT = bR := e; omega)
        have hst3 : Still w (wa.setCells bR 0 (#[.string ⟨#[]⟩, .string ⟨#[]⟩, .string ⟨#[]⟩] : Array Value).toList) := hstl.andThen (setCells_only wa bR 0 _) fun g hg e => by have := H1.out.2; have e' : g = bR := e; omega
        generalize wa.setCells bR 0 (#[.string ⟨#[]⟩, .string ⟨#[]⟩, .string ⟨#[]⟩] : Array Value).toList = wb at *
        refine hK.out _ _ ⟨⟨_, rfl, hcR3⟩, ⟨lT, hlT, hcT3, hkT⟩⟩ (fun hNew => ?_)
        clear hNew
        (clear hK K; try go_frame)
        refine wpAnyD_ready (rs := [4]) (by kernel_rfl) (by simp) ?_
        refine ReadyD.cons rfl (fun K hK => ?_) ReadyD.nil
        rw [if_pos (by rfl)]
        refine wp_store_mid 64 _ _ rfl bT 0 #[.int .i64 n1, .int .i64 n2] rfl rfl (cellsAt.there0 hcT3 _ hlT) size_rid (by rw [← Array.all_toList]; rfl) ?_
        have hcT4 := cellsAt.over hcT3 (#[.int .i64 n1, .int .i64 n2] : Array Value).toList hlT
        have hcR4 := hcR3.only (setCells_only wb bT 0 (#[.int .i64 n1, .int .i64 n2] : Array Value).toList) (fun e => by have := H1.out.2; have e' : bR = bT := e; omega)
        have hst4 : Still w (wb.setCells bT 0 (#[.int .i64 n1, .int .i64 n2] : Array Value).toList) := hst3.andThen (setCells_only wb bT 0 _) fun g hg e => by have := H1.out.2; have e' : g = bT := e; omega
        generalize wb.setCells bT 0 (#[.int .i64 n1, .int .i64 n2] : Array Value).toList = wd at *
        refine hK.out _ _ ⟨⟨_, rfl, hcR4⟩, ⟨_, rfl, hcT4, rfl⟩⟩ (fun hNew => ?_)
        (clear hK K; try go_frame)
        refine wpAnyD_ready (rs := [5]) (by kernel_rfl) (by simp) ?_
        refine ReadyD.cons rfl (fun K hK => ?_) ReadyD.nil
        go_simp
        refine hK.out _ _ hNew (fun hNew2 => ?_)
        clear hNew hNew2
        (clear hK K; try go_frame)
        refine wpAnyD_done (by kernel_rfl) ?_ _
        have z0 : wd.cell? ⟨bR, 0, none⟩ = some (.string ⟨#[]⟩) := hcR4.cell 0
        have z1 : wd.cell? ⟨bR, 1, none⟩ = some (.string ⟨#[]⟩) := hcR4.cell 1
        have z2 : wd.cell? ⟨bR, 2, none⟩ = some (.string ⟨#[]⟩) := hcR4.cell 2
        have y0 : wd.cell? ⟨bT, 0, none⟩ = some (.int .i64 n1) := hcT4.cell 0
        have y1 : wd.cell? ⟨bT, 1, none⟩ = some (.int .i64 n2) := hcT4.cell 1
        have F2 := Lib.hid (show RcPost w l (.returned (.tuple #[.int .i64 2, .agg #[.string ⟨#[]⟩, .string ⟨#[]⟩, .string ⟨#[]⟩], .agg #[.int .i64 n1, .int .i64 n2], .int .i64 0])) wd from ⟨by rw [F.out]; rfl, hst4⟩)
        clear hcR hcT hcR3 hcT3 hcR4 hcT4 hst3 hst4 hstl F hkT
        go_wp2_with fail
        exact bodyPost_ret (v := .tuple #[.int .i64 2, .agg #[.string ⟨#[]⟩, .string ⟨#[]⟩, .string ⟨#[]⟩], .agg #[.int .i64 n1, .int .i64 n2], .int .i64 0]) (by simp [results, Tryz.results97, go_sem, z0, z1, z2, y0, y1]) rfl F2.out
       | false =>
        have F := Lib.hid (show RdC l = (0, (⟨#[]⟩, ⟨#[]⟩, ⟨#[]⟩), (0, 0), 4) from by
         unfold RdC
         rw [HN.out.1, HN.out.2, if_neg (fun e => by
          rcases e with e | e
          · rw [e] at hln
            cases hln
          · rw [HQ.out] at e
            cases e.2), if_neg (fun e => e hln), if_neg HNR.out, if_neg (by rw [HMQ2.out.2, Bool.and_false]; decide)])
        clear HEQ
        go_upto_region 13 with fail
        go_wp2_with (first
         | ((with_reducible (show wpList _ _ _ ({ dst := none, op := Op.store 60 _ _, type := _, pos := _, after := _, guard := _ } :: _) _ _)); (refine wpList_storeAgg rfl 60 _ _ rfl bR #[.string ⟨#[]⟩, .string ⟨#[]⟩, .string ⟨#[]⟩] rfl rfl HSS.out.1 size_row rfl rfl ?_; intro wb hcf hof hzf; have HB1 := Lib.hid (And.intro hcf (And.intro hof hzf)); clear hcf hof hzf))
         | ((with_reducible (show wpList _ _ _ ({ dst := none, op := Op.store 64 _ _, type := _, pos := _, after := _, guard := _ } :: _) _ _)); (refine wpList_storeAgg rfl 64 _ _ rfl bT #[.int .i64 0, .int .i64 0] rfl rfl (HSS.out.2.only HB1.out.2.1 fun e => by have := H1.out.2; have e' : bT = bR := e; omega) size_rid rfl rfl ?_; intro wd hcf hof hzf; have HB2 := Lib.hid (And.intro hcf (And.intro hof hzf)); clear hcf hof hzf)))
        have hcR4 := HB1.out.1.only HB2.out.2.1 fun e => by have := H1.out.2; have e' : bR = bT := e; omega
        have hst3 : Still w wb := HW.out.andThen HB1.out.2.1 fun g hg e => by have := H1.out.2; have e' : g = bR := e; omega
        have hst4 : Still w wd := hst3.andThen HB2.out.2.1 fun g hg e => by have := H1.out.2; have e' : g = bT := e; omega
        have z0 : wd.cell? ⟨bR, 0, none⟩ = some (.string ⟨#[]⟩) := hcR4.cell 0
        have z1 : wd.cell? ⟨bR, 1, none⟩ = some (.string ⟨#[]⟩) := hcR4.cell 1
        have z2 : wd.cell? ⟨bR, 2, none⟩ = some (.string ⟨#[]⟩) := hcR4.cell 2
        have y0 : wd.cell? ⟨bT, 0, none⟩ = some (.int .i64 0) := HB2.out.1.cell 0
        have y1 : wd.cell? ⟨bT, 1, none⟩ = some (.int .i64 0) := HB2.out.1.cell 1
        have F2 := Lib.hid (show RcPost w l (.returned (.tuple #[.int .i64 0, .agg #[.string ⟨#[]⟩, .string ⟨#[]⟩, .string ⟨#[]⟩], .agg #[.int .i64 0, .int .i64 0], .int .i64 4])) wd from ⟨by rw [F.out]; rfl, hst4⟩)
        exact bodyPost_ret (v := .tuple #[.int .i64 0, .agg #[.string ⟨#[]⟩, .string ⟨#[]⟩, .string ⟨#[]⟩], .agg #[.int .i64 0, .int .i64 0], .int .i64 4]) (by simp [results, Tryz.results97, go_sem, z0, z1, z2, y0, y1]) rfl F2.out
     · rw [if_neg hm2] at hp
       obtain ⟨rfl, k2⟩ := hp
       have HSS := Lib.hid (show cellsAt w8 bR [.string ks, .string ss, .string vs] ∧ cellsAt w8 bT [.int .i64 n1, .int .i64 n2] from ⟨HSS7.out.1.only k2 fun e => e, HSS7.out.2.only k2 fun e => e⟩)
       have HW := Lib.hid (HW7.out.trans k2)
       have F := Lib.hid (show RdC l = (0, (⟨#[]⟩, ⟨#[]⟩, ⟨#[]⟩), (0, 0), 4) from by
        unfold RdC
        rw [HN.out.1, HN.out.2, if_neg (fun e => by
         rcases e with e | e
         · rw [e] at hln
           cases hln
         · rw [HQ.out] at e
           cases e.2), if_neg (fun e => e hln), if_neg HNR.out, if_neg (fun e => by rw [Bool.and_eq_true] at e; exact hm2 e.1)])
       clear k2 hm2 HST HSS7 HW7
       go_upto_region 13 with fail
       go_wp2_with (first
        | ((with_reducible (show wpList _ _ _ ({ dst := none, op := Op.store 60 _ _, type := _, pos := _, after := _, guard := _ } :: _) _ _)); (refine wpList_storeAgg rfl 60 _ _ rfl bR #[.string ⟨#[]⟩, .string ⟨#[]⟩, .string ⟨#[]⟩] rfl rfl HSS.out.1 size_row rfl rfl ?_; intro wb hcf hof hzf; have HB1 := Lib.hid (And.intro hcf (And.intro hof hzf)); clear hcf hof hzf))
        | ((with_reducible (show wpList _ _ _ ({ dst := none, op := Op.store 64 _ _, type := _, pos := _, after := _, guard := _ } :: _) _ _)); (refine wpList_storeAgg rfl 64 _ _ rfl bT #[.int .i64 0, .int .i64 0] rfl rfl (HSS.out.2.only HB1.out.2.1 fun e => by have := H1.out.2; have e' : bT = bR := e; omega) size_rid rfl rfl ?_; intro wd hcf hof hzf; have HB2 := Lib.hid (And.intro hcf (And.intro hof hzf)); clear hcf hof hzf)))
       have hcR4 := HB1.out.1.only HB2.out.2.1 fun e => by have := H1.out.2; have e' : bR = bT := e; omega
       have hst3 : Still w wb := HW.out.andThen HB1.out.2.1 fun g hg e => by have := H1.out.2; have e' : g = bR := e; omega
       have hst4 : Still w wd := hst3.andThen HB2.out.2.1 fun g hg e => by have := H1.out.2; have e' : g = bT := e; omega
       have z0 : wd.cell? ⟨bR, 0, none⟩ = some (.string ⟨#[]⟩) := hcR4.cell 0
       have z1 : wd.cell? ⟨bR, 1, none⟩ = some (.string ⟨#[]⟩) := hcR4.cell 1
       have z2 : wd.cell? ⟨bR, 2, none⟩ = some (.string ⟨#[]⟩) := hcR4.cell 2
       have y0 : wd.cell? ⟨bT, 0, none⟩ = some (.int .i64 0) := HB2.out.1.cell 0
       have y1 : wd.cell? ⟨bT, 1, none⟩ = some (.int .i64 0) := HB2.out.1.cell 1
       have F2 := Lib.hid (show RcPost w l (.returned (.tuple #[.int .i64 0, .agg #[.string ⟨#[]⟩, .string ⟨#[]⟩, .string ⟨#[]⟩], .agg #[.int .i64 0, .int .i64 0], .int .i64 4])) wd from ⟨by rw [F.out]; rfl, hst4⟩)
       exact bodyPost_ret (v := .tuple #[.int .i64 0, .agg #[.string ⟨#[]⟩, .string ⟨#[]⟩, .string ⟨#[]⟩], .agg #[.int .i64 0, .int .i64 0], .int .i64 4]) (by simp [results, Tryz.results97, go_sem, z0, z1, z2, y0, y1]) rfl F2.out
  · rw [if_neg hm] at hp
    obtain ⟨rfl, k2⟩ := hp
    have HSS := Lib.hid (show cellsAt w4 bR [.string ks, .string ss, .string vs] ∧ cellsAt w4 bT [.int .i64 0, .int .i64 0] from ⟨HSS3.out.1.only k2 fun e => e, HSS3.out.2.only k2 fun e => e⟩)
    have HW := Lib.hid (HW3.out.trans k2)
    have HNR := Lib.hid (show ¬ (rowMay (ksC l) (ssC l) (vsC l) && decide (l = rowB (ksC l) (ssC l) (vsC l))) = true from by
     rw [HK.out.1, HK.out.2.1, HK.out.2.2]
     intro e
     rw [Bool.and_eq_true] at e
     exact hm e.1)
    clear k2 hm HRW HSS3 HW3
    go_upto_region 9 with fail
    obtain ⟨n1, hn1⟩ : ∃ x, n1C l = x := ⟨_, rfl⟩
    obtain ⟨n2, hn2⟩ : ∃ x, n2C l = x := ⟨_, rfl⟩
    have HN := Lib.hid (And.intro hn1 hn2)
    have hl1 : l[1]? = some n1 := by
     rw [← hn1]
     unfold n1C
     rw [List.getD_eq_getElem?_getD, List.getElem?_eq_getElem (by omega)]
     rfl
    have hl2 : l[2]? = some n2 := by
     rw [← hn2]
     unfold n2C
     rw [List.getD_eq_getElem?_getD, List.getElem?_eq_getElem (by omega)]
     rfl
    have hx1 := HH.out.2.2.1 n1 (List.mem_of_getElem? hl1)
    have hx2 := HH.out.2.2.1 n2 (List.mem_of_getElem? hl2)
    obtain ⟨g, o, c', e, -, hgl, hcs⟩ := HH.out.1.pos (by decide)
    cases e
    have p1 : w4.cell? ⟨g, o + 1, none⟩ = some (.int .u8 n1) := Still.cell HW.out (hcs 1 _ (bc_get hl1))
    have p2 : w4.cell? ⟨g, o + 2, none⟩ = some (.int .u8 n2) := Still.cell HW.out (hcs 2 _ (bc_get hl2))
    have v1 : wrap64 n1 = n1 := IntWalk.wrap64_in n1 ⟨by omega, by omega⟩
    have v2 : wrap64 n2 = n2 := IntWalk.wrap64_in n2 ⟨by omega, by omega⟩
    have v3 : IntKind.i64.wrap n1 = n1 := IntWalk.i64_in _ (by omega)
    have v4 : IntKind.i64.wrap n2 = n2 := IntWalk.i64_in _ (by omega)
    have t0 : w4.cell? ⟨bT, 0, none⟩ = some (.int .i64 0) := HSS.out.2.cell 0
    have t1 : w4.cell? ⟨bT, 1, none⟩ = some (.int .i64 0) := HSS.out.2.cell 1
    have f0 : w4.frozen? ⟨bT, 0, none⟩ = false := HSS.out.2.free 0
    have f1 : w4.frozen? ⟨bT, 1, none⟩ = false := HSS.out.2.free 1
    have hgW : g < w4.heap.size := lt_of_cell p1
    have SSP := Lib.hid (fun w' (ho : Only (fun x => x = bT) w4 w') => show w'.cell? ⟨g, o + 1, none⟩ = some (.int .u8 n1) ∧ w'.cell? ⟨g, o + 2, none⟩ = some (.int .u8 n2) from
     ⟨(ho.cell (p := ⟨g, o + 1, none⟩) hgW (fun e => by have := H1.out.2; have e' : g = bT := e; omega)).trans p1, (ho.cell (p := ⟨g, o + 2, none⟩) hgW (fun e => by have := H1.out.2; have e' : g = bT := e; omega)).trans p2⟩)
    have o0 : Only (fun x => x = bT) w4 w4 := Only.refl _ _
    have o1 : Only (fun x => x = bT) w4 (w4.setCell ⟨bT, 0, none⟩ (.int .i64 n1)) := o0.setCell (p := ⟨bT, 0, none⟩) (.inl rfl) _
    have o2 : Only (fun x => x = bT) w4 ((w4.setCell ⟨bT, 0, none⟩ (.int .i64 n1)).setCell ⟨bT, 1, none⟩ (.int .i64 n2)) := o1.setCell (p := ⟨bT, 1, none⟩) (.inl rfl) _
    have HO := Lib.hid (And.intro o0.drew o2.drew)
    clear hn1 hn2 hl1 hl2 hgl hcs hgW o0 o1 o2
    go_region_held3 (fun w' => w'.cell? ⟨g, o + 1, none⟩ = some (.int .u8 n1) ∧ w'.cell? ⟨g, o + 2, none⟩ = some (.int .u8 n2)) (first | exact SSP.out _ HO.out.1 | exact SSP.out _ HO.out.2) (fail)
    have HSS7 := Lib.hid (show cellsAt ((w4.setCell ⟨bT, 0, none⟩ (.int .i64 n1)).setCell ⟨bT, 1, none⟩ (.int .i64 n2)).drew bR [.string ks, .string ss, .string vs] ∧ cellsAt ((w4.setCell ⟨bT, 0, none⟩ (.int .i64 n1)).setCell ⟨bT, 1, none⟩ (.int .i64 n2)).drew bT [.int .i64 n1, .int .i64 n2] from
     ⟨HSS.out.1.only HO.out.2 fun e => by have := H1.out.2; have e' : bR = bT := e; omega, (HSS.out.2.setCell 0 (.int .i64 n1)).setCell 1 (.int .i64 n2)⟩)
    have HW7 := Lib.hid (show Still w ((w4.setCell ⟨bT, 0, none⟩ (.int .i64 n1)).setCell ⟨bT, 1, none⟩ (.int .i64 n2)).drew from HW.out.andThen HO.out.2 fun x hx e => by have := H1.out.2; have e' : x = bT := e; omega)
    clear HSS HW HO SSP p1 p2 t0 t1 f0 f1
    generalize ((w4.setCell ⟨bT, 0, none⟩ (.int .i64 n1)).setCell ⟨bT, 1, none⟩ (.int .i64 n2)).drew = w7 at *
    have HST := Lib.hid (cstub_any w7 n1 n2)
    go_wp2_with ((with_reducible (show wpList _ _ _ ({ dst := some 64, op := _, type := _, pos := _, after := _, guard := _ } :: _) _ _)); (refine wpList_loadAgg rfl 64 _ rfl bT #[.int .i64 n1, .int .i64 n2] rfl HSS7.out.2 _ Tryz.underlying64 rfl size_rid ?_))
    refine HST.out.mono ?_
    intro e w8 hp
    unfold CsPost at hp
    by_cases hm2 : stubMay n1 n2 = true
    · rw [if_pos hm2] at hp
      obtain ⟨v8, rfl, k1, k2, k3⟩ := hp
      have HSS := Lib.hid (show cellsAt w8 bR [.string ks, .string ss, .string vs] ∧ cellsAt w8 bT [.int .i64 n1, .int .i64 n2] from ⟨HSS7.out.1.only k2 fun e => e, HSS7.out.2.only k2 fun e => e⟩)
      have HW := Lib.hid (HW7.out.trans k2)
      have hby : Byt (stubB n1 n2) := by
       intro z hz
       unfold stubB at hz
       rcases List.mem_cons.1 hz with rfl | hz
       · omega
       rcases List.mem_cons.1 hz with rfl | hz
       · exact hx1
       rcases List.mem_cons.1 hz with rfl | hz
       · exact hx2
       · rw [List.eq_of_mem_replicate hz]
         omega
      have HEQ := Lib.hid (equal_any w8 (.slice (some ⟨g, o, none⟩) 26 c) v8 26 26 l (stubB n1 n2) (HH.out.1.still HW.out) (Vec.sl0 k1 (by decide)) HH.out.2.2.1 hby)
      obtain ⟨q, hq⟩ : ∃ q, decide (l = stubB n1 n2) = q := ⟨_, rfl⟩
      rw [hq] at HEQ
      obtain ⟨a8, c8, rfl⟩ := k1.form'
      have HMQ2 := Lib.hid (And.intro hm2 hq)
      clear k1 k2 k3 hby hm2 hq HST HSS7 HW7
      go_wp2_with fail
      refine HEQ.out.mono ?_
      rintro e w9 ⟨rfl, rfl⟩
      cases q with
      | true =>
       have F := Lib.hid (show RdC l = (2, (⟨#[]⟩, ⟨#[]⟩, ⟨#[]⟩), (n1, n2), 0) from by
        unfold RdC
        rw [HN.out.1, HN.out.2, if_neg (fun e => by
         rcases e with e | e
         · rw [e] at hln
           cases hln
         · rw [HQ.out] at e
           cases e.2), if_neg (fun e => e hln), if_neg HNR.out, if_pos (by rw [HMQ2.out.1, HMQ2.out.2]; rfl)])
       clear HEQ
       go_upto_region 12 with fail
       refine wp_region_D_drew (D := (fun i => false)) (S := (fun w' => (∃ lR, lR.length = 3 ∧ cellsAt w' bR lR ) ∧ ∃ lT, lT.length = 2 ∧ cellsAt w' bT lT ∧ lT = [.int .i64 n1, .int .i64 n2])) (by kernel_rfl) ?_ (fun hHeld => ?_)
       · exact ⟨⟨_, rfl, HSS.out.1.only (still_drew _) fun e => e⟩, ⟨_, rfl, HSS.out.2.only (still_drew _) fun e => e, rfl⟩⟩
       have hstl : Still w w9.drew := HW.out.drew
       generalize w9.drew = wa at *
       (refine takeS (i := 0) (some 75) (v := ?_) rfl (by rfl) (by rfl) (by kernel_rfl) (by rfl) (fun _ _ _ h => h) hHeld ?_ ?_; rotate_left; (intro w hSw; go_simp; try with_reducible rfl); try go_frame)
       (refine takeS (i := 1) (some 76) (v := .agg #[.int .i64 n1, .int .i64 n2]) rfl (by rfl) (by rfl) (by kernel_rfl) (by rfl) (fun _ _ _ h => h) hHeld ?_ ?_; (intro w hSw; obtain ⟨lX, -, hcX, rfl⟩ := hSw.2; exact exec_load2 rfl rfl hcX rfl); try go_frame)
       refine wpAnyD_ready (rs := [2]) (by kernel_rfl) (by simp) ?_
       refine ReadyD.cons rfl (fun K hK => ?_) ReadyD.nil
       go_simp
       refine hK.out _ _ hHeld (fun hNew => ?_)
       clear hNew
       (clear hK K; try go_frame)
       refine wpAnyD_ready (rs := [3]) (by kernel_rfl) (by simp) ?_
       refine ReadyD.cons rfl (fun K hK => ?_) ReadyD.nil
       rw [if_pos (by rfl)]
       obtain ⟨⟨lR, hlR, hcR⟩, ⟨lT, hlT, hcT, hkT⟩⟩ := hHeld
       refine wp_store_mid 60 _ _ rfl bR 0 #[.string ⟨#[]⟩, .string ⟨#[]⟩, .string ⟨#[]⟩] rfl rfl (cellsAt.there0 hcR _ hlR) size_row (by rw [← Array.all_toList]; rfl) ?_
       have hcR3 := cellsAt.over hcR (#[.string ⟨#[]⟩, .string ⟨#[]⟩, .string ⟨#[]⟩] : Array Value).toList hlR
       have hcT3 := hcT.only (setCells_only wa bR 0 (#[.string ⟨#[]⟩, .string ⟨#[]⟩, .string ⟨#[]⟩] : Array Value).toList) (fun e => by have := H1.out.2; have e' : bT = bR := e; omega)
       have hst3 : Still w (wa.setCells bR 0 (#[.string ⟨#[]⟩, .string ⟨#[]⟩, .string ⟨#[]⟩] : Array Value).toList) := hstl.andThen (setCells_only wa bR 0 _) fun g hg e => by have := H1.out.2; have e' : g = bR := e; omega
       generalize wa.setCells bR 0 (#[.string ⟨#[]⟩, .string ⟨#[]⟩, .string ⟨#[]⟩] : Array Value).toList = wb at *
       refine hK.out _ _ ⟨⟨_, rfl, hcR3⟩, ⟨lT, hlT, hcT3, hkT⟩⟩ (fun hNew => ?_)
       clear hNew
       (clear hK K; try go_frame)
       refine wpAnyD_ready (rs := [4]) (by kernel_rfl) (by simp) ?_
       refine ReadyD.cons rfl (fun K hK => ?_) ReadyD.nil
       rw [if_pos (by rfl)]
       refine wp_store_mid 64 _ _ rfl bT 0 #[.int .i64 n1, .int .i64 n2] rfl rfl (cellsAt.there0 hcT3 _ hlT) size_rid (by rw [← Array.all_toList]; rfl) ?_
       have hcT4 := cellsAt.over hcT3 (#[.int .i64 n1, .int .i64 n2] : Array Value).toList hlT
       have hcR4 := hcR3.only (setCells_only wb bT 0 (#[.int .i64 n1, .int .i64 n2] : Array Value).toList) (fun e => by have := H1.out.2; have e' : bR = bT := e; omega)
       have hst4 : Still w (wb.setCells bT 0 (#[.int .i64 n1, .int .i64 n2] : Array Value).toList) := hst3.andThen (setCells_only wb bT 0 _) fun g hg e => by have := H1.out.2; have e' : g = bT := e; omega
       generalize wb.setCells bT 0 (#[.int .i64 n1, .int .i64 n2] : Array Value).toList = wd at *
       refine hK.out _ _ ⟨⟨_, rfl, hcR4⟩, ⟨_, rfl, hcT4, rfl⟩⟩ (fun hNew => ?_)
       (clear hK K; try go_frame)
       refine wpAnyD_ready (rs := [5]) (by kernel_rfl) (by simp) ?_
       refine ReadyD.cons rfl (fun K hK => ?_) ReadyD.nil
       go_simp
       refine hK.out _ _ hNew (fun hNew2 => ?_)
       clear hNew hNew2
       (clear hK K; try go_frame)
       refine wpAnyD_done (by kernel_rfl) ?_ _
       have z0 : wd.cell? ⟨bR, 0, none⟩ = some (.string ⟨#[]⟩) := hcR4.cell 0
       have z1 : wd.cell? ⟨bR, 1, none⟩ = some (.string ⟨#[]⟩) := hcR4.cell 1
       have z2 : wd.cell? ⟨bR, 2, none⟩ = some (.string ⟨#[]⟩) := hcR4.cell 2
       have y0 : wd.cell? ⟨bT, 0, none⟩ = some (.int .i64 n1) := hcT4.cell 0
       have y1 : wd.cell? ⟨bT, 1, none⟩ = some (.int .i64 n2) := hcT4.cell 1
       have F2 := Lib.hid (show RcPost w l (.returned (.tuple #[.int .i64 2, .agg #[.string ⟨#[]⟩, .string ⟨#[]⟩, .string ⟨#[]⟩], .agg #[.int .i64 n1, .int .i64 n2], .int .i64 0])) wd from ⟨by rw [F.out]; rfl, hst4⟩)
       clear hcR hcT hcR3 hcT3 hcR4 hcT4 hst3 hst4 hstl F hkT
       go_wp2_with fail
       exact bodyPost_ret (v := .tuple #[.int .i64 2, .agg #[.string ⟨#[]⟩, .string ⟨#[]⟩, .string ⟨#[]⟩], .agg #[.int .i64 n1, .int .i64 n2], .int .i64 0]) (by simp [results, Tryz.results97, go_sem, z0, z1, z2, y0, y1]) rfl F2.out
      | false =>
       have F := Lib.hid (show RdC l = (0, (⟨#[]⟩, ⟨#[]⟩, ⟨#[]⟩), (0, 0), 4) from by
        unfold RdC
        rw [HN.out.1, HN.out.2, if_neg (fun e => by
         rcases e with e | e
         · rw [e] at hln
           cases hln
         · rw [HQ.out] at e
           cases e.2), if_neg (fun e => e hln), if_neg HNR.out, if_neg (by rw [HMQ2.out.2, Bool.and_false]; decide)])
       clear HEQ
       go_upto_region 13 with fail
       go_wp2_with (first
        | ((with_reducible (show wpList _ _ _ ({ dst := none, op := Op.store 60 _ _, type := _, pos := _, after := _, guard := _ } :: _) _ _)); (refine wpList_storeAgg rfl 60 _ _ rfl bR #[.string ⟨#[]⟩, .string ⟨#[]⟩, .string ⟨#[]⟩] rfl rfl HSS.out.1 size_row rfl rfl ?_; intro wb hcf hof hzf; have HB1 := Lib.hid (And.intro hcf (And.intro hof hzf)); clear hcf hof hzf))
        | ((with_reducible (show wpList _ _ _ ({ dst := none, op := Op.store 64 _ _, type := _, pos := _, after := _, guard := _ } :: _) _ _)); (refine wpList_storeAgg rfl 64 _ _ rfl bT #[.int .i64 0, .int .i64 0] rfl rfl (HSS.out.2.only HB1.out.2.1 fun e => by have := H1.out.2; have e' : bT = bR := e; omega) size_rid rfl rfl ?_; intro wd hcf hof hzf; have HB2 := Lib.hid (And.intro hcf (And.intro hof hzf)); clear hcf hof hzf)))
       have hcR4 := HB1.out.1.only HB2.out.2.1 fun e => by have := H1.out.2; have e' : bR = bT := e; omega
       have hst3 : Still w wb := HW.out.andThen HB1.out.2.1 fun g hg e => by have := H1.out.2; have e' : g = bR := e; omega
       have hst4 : Still w wd := hst3.andThen HB2.out.2.1 fun g hg e => by have := H1.out.2; have e' : g = bT := e; omega
       have z0 : wd.cell? ⟨bR, 0, none⟩ = some (.string ⟨#[]⟩) := hcR4.cell 0
       have z1 : wd.cell? ⟨bR, 1, none⟩ = some (.string ⟨#[]⟩) := hcR4.cell 1
       have z2 : wd.cell? ⟨bR, 2, none⟩ = some (.string ⟨#[]⟩) := hcR4.cell 2
       have y0 : wd.cell? ⟨bT, 0, none⟩ = some (.int .i64 0) := HB2.out.1.cell 0
       have y1 : wd.cell? ⟨bT, 1, none⟩ = some (.int .i64 0) := HB2.out.1.cell 1
       have F2 := Lib.hid (show RcPost w l (.returned (.tuple #[.int .i64 0, .agg #[.string ⟨#[]⟩, .string ⟨#[]⟩, .string ⟨#[]⟩], .agg #[.int .i64 0, .int .i64 0], .int .i64 4])) wd from ⟨by rw [F.out]; rfl, hst4⟩)
       exact bodyPost_ret (v := .tuple #[.int .i64 0, .agg #[.string ⟨#[]⟩, .string ⟨#[]⟩, .string ⟨#[]⟩], .agg #[.int .i64 0, .int .i64 0], .int .i64 4]) (by simp [results, Tryz.results97, go_sem, z0, z1, z2, y0, y1]) rfl F2.out
    · rw [if_neg hm2] at hp
      obtain ⟨rfl, k2⟩ := hp
      have HSS := Lib.hid (show cellsAt w8 bR [.string ks, .string ss, .string vs] ∧ cellsAt w8 bT [.int .i64 n1, .int .i64 n2] from ⟨HSS7.out.1.only k2 fun e => e, HSS7.out.2.only k2 fun e => e⟩)
      have HW := Lib.hid (HW7.out.trans k2)
      have F := Lib.hid (show RdC l = (0, (⟨#[]⟩, ⟨#[]⟩, ⟨#[]⟩), (0, 0), 4) from by
       unfold RdC
       rw [HN.out.1, HN.out.2, if_neg (fun e => by
        rcases e with e | e
        · rw [e] at hln
          cases hln
        · rw [HQ.out] at e
          cases e.2), if_neg (fun e => e hln), if_neg HNR.out, if_neg (fun e => by rw [Bool.and_eq_true] at e; exact hm2 e.1)])
      clear k2 hm2 HST HSS7 HW7
      go_upto_region 13 with fail
      go_wp2_with (first
       | ((with_reducible (show wpList _ _ _ ({ dst := none, op := Op.store 60 _ _, type := _, pos := _, after := _, guard := _ } :: _) _ _)); (refine wpList_storeAgg rfl 60 _ _ rfl bR #[.string ⟨#[]⟩, .string ⟨#[]⟩, .string ⟨#[]⟩] rfl rfl HSS.out.1 size_row rfl rfl ?_; intro wb hcf hof hzf; have HB1 := Lib.hid (And.intro hcf (And.intro hof hzf)); clear hcf hof hzf))
       | ((with_reducible (show wpList _ _ _ ({ dst := none, op := Op.store 64 _ _, type := _, pos := _, after := _, guard := _ } :: _) _ _)); (refine wpList_storeAgg rfl 64 _ _ rfl bT #[.int .i64 0, .int .i64 0] rfl rfl (HSS.out.2.only HB1.out.2.1 fun e => by have := H1.out.2; have e' : bT = bR := e; omega) size_rid rfl rfl ?_; intro wd hcf hof hzf; have HB2 := Lib.hid (And.intro hcf (And.intro hof hzf)); clear hcf hof hzf)))
      have hcR4 := HB1.out.1.only HB2.out.2.1 fun e => by have := H1.out.2; have e' : bR = bT := e; omega
      have hst3 : Still w wb := HW.out.andThen HB1.out.2.1 fun g hg e => by have := H1.out.2; have e' : g = bR := e; omega
      have hst4 : Still w wd := hst3.andThen HB2.out.2.1 fun g hg e => by have := H1.out.2; have e' : g = bT := e; omega
      have z0 : wd.cell? ⟨bR, 0, none⟩ = some (.string ⟨#[]⟩) := hcR4.cell 0
      have z1 : wd.cell? ⟨bR, 1, none⟩ = some (.string ⟨#[]⟩) := hcR4.cell 1
      have z2 : wd.cell? ⟨bR, 2, none⟩ = some (.string ⟨#[]⟩) := hcR4.cell 2
      have y0 : wd.cell? ⟨bT, 0, none⟩ = some (.int .i64 0) := HB2.out.1.cell 0
      have y1 : wd.cell? ⟨bT, 1, none⟩ = some (.int .i64 0) := HB2.out.1.cell 1
      have F2 := Lib.hid (show RcPost w l (.returned (.tuple #[.int .i64 0, .agg #[.string ⟨#[]⟩, .string ⟨#[]⟩, .string ⟨#[]⟩], .agg #[.int .i64 0, .int .i64 0], .int .i64 4])) wd from ⟨by rw [F.out]; rfl, hst4⟩)
      exact bodyPost_ret (v := .tuple #[.int .i64 0, .agg #[.string ⟨#[]⟩, .string ⟨#[]⟩, .string ⟨#[]⟩], .agg #[.int .i64 0, .int .i64 0], .int .i64 4]) (by simp [results, Tryz.results97, go_sem, z0, z1, z2, y0, y1]) rfl F2.out
end Go.Proofs.YtlcfoeikamkpmaaGreat
