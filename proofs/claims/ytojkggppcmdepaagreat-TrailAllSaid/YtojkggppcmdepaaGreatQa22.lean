/- Entries compared: equal ones. Conditions: they lie in memory. The library's contracts at this program, as the kit's tools have laid them: maps.Keys, slices.Sorted, slices.Sort of numbers. No conditions. The keys of a map with numbers, sorted: plain. No program's function. Conditions: the numbers are below a bound. -/
import Derived.Test.YtojkggppcmdepaaGreatQa21
import Derived.Shelf.SlIterI.Nil
import Derived.Shelf.SortM.Plain
import Derived.Shelf.SortM.SortNone
import Derived.Ground.GgzProg
import Derived.Ground.SlgmProg
import Derived.Test.YtojkggppcmdepaaGreatProg
import Derived.Lib.SlKeysI
namespace Go.Proofs.YtojkggppcmdepaaGreat
open Go.RowKit Go.Wh Go.Maps

abbrev EIx (w : World) (P : Nat → Prop) (e : PE) (o n m l d v : Option Addr) (oc nc mc lc dc vc : Nat) : Prop := EIs w P e (.slice o e.old.length oc) (.slice n e.new.length nc) (.slice m e.moves.length mc) (.slice l e.lives.length lc) (.slice d e.dirty.length dc) (.slice v e.opens.length vc)
theorem PE.small {e : PE} (h : e.may = true) : e.moves.length ≤ 100000 ∧ e.lives.length ≤ 100000 ∧ e.dirty.length ≤ 100000 ∧ e.opens.length ≤ 100000 ∧ ∀ x ∈ e.opens, x.moves.length ≤ 100000 := by
 obtain ⟨-, -, h1, h2, h3, h4⟩ := PE.may_lists h
 refine ⟨by have := (eachB_len h1).1; omega, by have := (eachB_len h2).1; omega, by have := (eachB_len h3).1; omega, by have := (eachB_len h4).1; omega, fun x hx => ?_⟩
 have := (eachB_len h4).2 x hx
 unfold opMay at this
 simp only [Bool.and_eq_true] at this
 have := (eachB_len this.2).1
 omega
set_option maxHeartbeats 8000000 in
set_option maxRecDepth 100000 in
theorem same_entry {w : World} {P Q : Nat → Prop} {e : PE} (xo xn xm xl xd xv yo yn ym yl yd yv : Option Addr) (xoc xnc xmc xlc xdc xvc yoc ync ymc ylc ydc yvc : Nat) (he : e.may = true) (h : EIx w P e xo xn xm xl xd xv xoc xnc xmc xlc xdc xvc) (k : EIx w Q e yo yn ym yl yd yv yoc ync ymc ylc ydc yvc) :
 Calls Tryz.prog 41 #[.agg #[.int .i64 e.kind, .int .i64 e.txn, .int .i64 e.unit, .int .i64 e.half, .int .i64 e.prev, .int .i64 e.next, .int .i64 e.ap, .int .i64 e.ac, .int .i64 e.tp, .int .i64 e.tc, .slice xo e.old.length xoc, .slice xn e.new.length xnc, .slice xm e.moves.length xmc, .slice xl e.lives.length xlc, .slice xd e.dirty.length xdc, .slice xv e.opens.length xvc], .agg #[.int .i64 e.kind, .int .i64 e.txn, .int .i64 e.unit, .int .i64 e.half, .int .i64 e.prev, .int .i64 e.next, .int .i64 e.ap, .int .i64 e.ac, .int .i64 e.tp, .int .i64 e.tc, .slice yo e.old.length yoc, .slice yn e.new.length ync, .slice ym e.moves.length ymc, .slice yl e.lives.length ylc, .slice yd e.dirty.length ydc, .slice yv e.opens.length yvc]] w (StPost w (.bool true)) := by
 have hs : Still w ((w.alloc (.cells #[.int .i64 e.kind, .int .i64 e.txn, .int .i64 e.unit, .int .i64 e.half, .int .i64 e.prev, .int .i64 e.next, .int .i64 e.ap, .int .i64 e.ac, .int .i64 e.tp, .int .i64 e.tc, .slice xo e.old.length xoc, .slice xn e.new.length xnc, .slice xm e.moves.length xmc, .slice xl e.lives.length xlc, .slice xd e.dirty.length xdc, .slice xv e.opens.length xvc] 34)).alloc (.cells #[.int .i64 e.kind, .int .i64 e.txn, .int .i64 e.unit, .int .i64 e.half, .int .i64 e.prev, .int .i64 e.next, .int .i64 e.ap, .int .i64 e.ac, .int .i64 e.tp, .int .i64 e.tc, .slice yo e.old.length yoc, .slice yn e.new.length ync, .slice ym e.moves.length ymc, .slice yl e.lives.length ylc, .slice yd e.dirty.length ydc, .slice yv e.opens.length yvc] 34)) := ((Still.refl w).alloc _).alloc _
 have hz : (w.alloc (.cells #[.int .i64 e.kind, .int .i64 e.txn, .int .i64 e.unit, .int .i64 e.half, .int .i64 e.prev, .int .i64 e.next, .int .i64 e.ap, .int .i64 e.ac, .int .i64 e.tp, .int .i64 e.tc, .slice xo e.old.length xoc, .slice xn e.new.length xnc, .slice xm e.moves.length xmc, .slice xl e.lives.length xlc, .slice xd e.dirty.length xdc, .slice xv e.opens.length xvc] 34)).heap.size = w.heap.size + 1 := by simp
 have cA := (cellsAt_new w [.int .i64 e.kind, .int .i64 e.txn, .int .i64 e.unit, .int .i64 e.half, .int .i64 e.prev, .int .i64 e.next, .int .i64 e.ap, .int .i64 e.ac, .int .i64 e.tp, .int .i64 e.tc, .slice xo e.old.length xoc, .slice xn e.new.length xnc, .slice xm e.moves.length xmc, .slice xl e.lives.length xlc, .slice xd e.dirty.length xdc, .slice xv e.opens.length xvc] 34).alloc (.cells #[.int .i64 e.kind, .int .i64 e.txn, .int .i64 e.unit, .int .i64 e.half, .int .i64 e.prev, .int .i64 e.next, .int .i64 e.ap, .int .i64 e.ac, .int .i64 e.tp, .int .i64 e.tc, .slice yo e.old.length yoc, .slice yn e.new.length ync, .slice ym e.moves.length ymc, .slice yl e.lives.length ylc, .slice yd e.dirty.length ydc, .slice yv e.opens.length yvc] 34)
 have cB := cellsAt_new (w.alloc (.cells #[.int .i64 e.kind, .int .i64 e.txn, .int .i64 e.unit, .int .i64 e.half, .int .i64 e.prev, .int .i64 e.next, .int .i64 e.ap, .int .i64 e.ac, .int .i64 e.tp, .int .i64 e.tc, .slice xo e.old.length xoc, .slice xn e.new.length xnc, .slice xm e.moves.length xmc, .slice xl e.lives.length xlc, .slice xd e.dirty.length xdc, .slice xv e.opens.length xvc] 34)) [.int .i64 e.kind, .int .i64 e.txn, .int .i64 e.unit, .int .i64 e.half, .int .i64 e.prev, .int .i64 e.next, .int .i64 e.ap, .int .i64 e.ac, .int .i64 e.tp, .int .i64 e.tc, .slice yo e.old.length yoc, .slice yn e.new.length ync, .slice ym e.moves.length ymc, .slice yl e.lives.length ylc, .slice yd e.dirty.length ydc, .slice yv e.opens.length yvc] 34
 rw [hz] at cB
 have HK := Lib.hid (fun w' (hs' : Still ((w.alloc (.cells #[.int .i64 e.kind, .int .i64 e.txn, .int .i64 e.unit, .int .i64 e.half, .int .i64 e.prev, .int .i64 e.next, .int .i64 e.ap, .int .i64 e.ac, .int .i64 e.tp, .int .i64 e.tc, .slice xo e.old.length xoc, .slice xn e.new.length xnc, .slice xm e.moves.length xmc, .slice xl e.lives.length xlc, .slice xd e.dirty.length xdc, .slice xv e.opens.length xvc] 34)).alloc (.cells #[.int .i64 e.kind, .int .i64 e.txn, .int .i64 e.unit, .int .i64 e.half, .int .i64 e.prev, .int .i64 e.next, .int .i64 e.ap, .int .i64 e.ac, .int .i64 e.tp, .int .i64 e.tc, .slice yo e.old.length yoc, .slice yn e.new.length ync, .slice ym e.moves.length ymc, .slice yl e.lives.length ylc, .slice yd e.dirty.length ydc, .slice yv e.opens.length yvc] 34)) w') => show (w'.cell? ⟨w.heap.size, 13, none⟩ = some (.slice xl e.lives.length xlc) ∧ w'.cell? ⟨w.heap.size + 1, 13, none⟩ = some (.slice yl e.lives.length ylc)) ∧ (w'.cell? ⟨w.heap.size, 14, none⟩ = some (.slice xd e.dirty.length xdc) ∧ w'.cell? ⟨w.heap.size + 1, 14, none⟩ = some (.slice yd e.dirty.length ydc)) ∧ (w'.cell? ⟨w.heap.size, 15, none⟩ = some (.slice xv e.opens.length xvc) ∧ w'.cell? ⟨w.heap.size + 1, 15, none⟩ = some (.slice yv e.opens.length yvc)) from
  have kA := cA.only hs' fun e => e
  have kB := cB.only hs' fun e => e
  ⟨⟨kA.cell 13, kB.cell 13⟩, ⟨kA.cell 14, kB.cell 14⟩, ⟨kA.cell 15, kB.cell 15⟩⟩)
 have v1 := conv_sl (h.o.still hs)
 have v2 := conv_sl (h.n.still hs)
 have v3 := conv_sl (k.o.still hs)
 have v4 := conv_sl (k.n.still hs)
 have a0 : ((w.alloc (.cells #[.int .i64 e.kind, .int .i64 e.txn, .int .i64 e.unit, .int .i64 e.half, .int .i64 e.prev, .int .i64 e.next, .int .i64 e.ap, .int .i64 e.ac, .int .i64 e.tp, .int .i64 e.tc, .slice xo e.old.length xoc, .slice xn e.new.length xnc, .slice xm e.moves.length xmc, .slice xl e.lives.length xlc, .slice xd e.dirty.length xdc, .slice xv e.opens.length xvc] 34)).alloc (.cells #[.int .i64 e.kind, .int .i64 e.txn, .int .i64 e.unit, .int .i64 e.half, .int .i64 e.prev, .int .i64 e.next, .int .i64 e.ap, .int .i64 e.ac, .int .i64 e.tp, .int .i64 e.tc, .slice yo e.old.length yoc, .slice yn e.new.length ync, .slice ym e.moves.length ymc, .slice yl e.lives.length ylc, .slice yd e.dirty.length ydc, .slice yv e.opens.length yvc] 34)).cell? ⟨w.heap.size, 0, none⟩ = some (.int .i64 e.kind) := cA.cell 0
 have b0 : ((w.alloc (.cells #[.int .i64 e.kind, .int .i64 e.txn, .int .i64 e.unit, .int .i64 e.half, .int .i64 e.prev, .int .i64 e.next, .int .i64 e.ap, .int .i64 e.ac, .int .i64 e.tp, .int .i64 e.tc, .slice xo e.old.length xoc, .slice xn e.new.length xnc, .slice xm e.moves.length xmc, .slice xl e.lives.length xlc, .slice xd e.dirty.length xdc, .slice xv e.opens.length xvc] 34)).alloc (.cells #[.int .i64 e.kind, .int .i64 e.txn, .int .i64 e.unit, .int .i64 e.half, .int .i64 e.prev, .int .i64 e.next, .int .i64 e.ap, .int .i64 e.ac, .int .i64 e.tp, .int .i64 e.tc, .slice yo e.old.length yoc, .slice yn e.new.length ync, .slice ym e.moves.length ymc, .slice yl e.lives.length ylc, .slice yd e.dirty.length ydc, .slice yv e.opens.length yvc] 34)).cell? ⟨w.heap.size + 1, 0, none⟩ = some (.int .i64 e.kind) := cB.cell 0
 have a1 : ((w.alloc (.cells #[.int .i64 e.kind, .int .i64 e.txn, .int .i64 e.unit, .int .i64 e.half, .int .i64 e.prev, .int .i64 e.next, .int .i64 e.ap, .int .i64 e.ac, .int .i64 e.tp, .int .i64 e.tc, .slice xo e.old.length xoc, .slice xn e.new.length xnc, .slice xm e.moves.length xmc, .slice xl e.lives.length xlc, .slice xd e.dirty.length xdc, .slice xv e.opens.length xvc] 34)).alloc (.cells #[.int .i64 e.kind, .int .i64 e.txn, .int .i64 e.unit, .int .i64 e.half, .int .i64 e.prev, .int .i64 e.next, .int .i64 e.ap, .int .i64 e.ac, .int .i64 e.tp, .int .i64 e.tc, .slice yo e.old.length yoc, .slice yn e.new.length ync, .slice ym e.moves.length ymc, .slice yl e.lives.length ylc, .slice yd e.dirty.length ydc, .slice yv e.opens.length yvc] 34)).cell? ⟨w.heap.size, 1, none⟩ = some (.int .i64 e.txn) := cA.cell 1
 have b1 : ((w.alloc (.cells #[.int .i64 e.kind, .int .i64 e.txn, .int .i64 e.unit, .int .i64 e.half, .int .i64 e.prev, .int .i64 e.next, .int .i64 e.ap, .int .i64 e.ac, .int .i64 e.tp, .int .i64 e.tc, .slice xo e.old.length xoc, .slice xn e.new.length xnc, .slice xm e.moves.length xmc, .slice xl e.lives.length xlc, .slice xd e.dirty.length xdc, .slice xv e.opens.length xvc] 34)).alloc (.cells #[.int .i64 e.kind, .int .i64 e.txn, .int .i64 e.unit, .int .i64 e.half, .int .i64 e.prev, .int .i64 e.next, .int .i64 e.ap, .int .i64 e.ac, .int .i64 e.tp, .int .i64 e.tc, .slice yo e.old.length yoc, .slice yn e.new.length ync, .slice ym e.moves.length ymc, .slice yl e.lives.length ylc, .slice yd e.dirty.length ydc, .slice yv e.opens.length yvc] 34)).cell? ⟨w.heap.size + 1, 1, none⟩ = some (.int .i64 e.txn) := cB.cell 1
 have a2 : ((w.alloc (.cells #[.int .i64 e.kind, .int .i64 e.txn, .int .i64 e.unit, .int .i64 e.half, .int .i64 e.prev, .int .i64 e.next, .int .i64 e.ap, .int .i64 e.ac, .int .i64 e.tp, .int .i64 e.tc, .slice xo e.old.length xoc, .slice xn e.new.length xnc, .slice xm e.moves.length xmc, .slice xl e.lives.length xlc, .slice xd e.dirty.length xdc, .slice xv e.opens.length xvc] 34)).alloc (.cells #[.int .i64 e.kind, .int .i64 e.txn, .int .i64 e.unit, .int .i64 e.half, .int .i64 e.prev, .int .i64 e.next, .int .i64 e.ap, .int .i64 e.ac, .int .i64 e.tp, .int .i64 e.tc, .slice yo e.old.length yoc, .slice yn e.new.length ync, .slice ym e.moves.length ymc, .slice yl e.lives.length ylc, .slice yd e.dirty.length ydc, .slice yv e.opens.length yvc] 34)).cell? ⟨w.heap.size, 2, none⟩ = some (.int .i64 e.unit) := cA.cell 2
 have b2 : ((w.alloc (.cells #[.int .i64 e.kind, .int .i64 e.txn, .int .i64 e.unit, .int .i64 e.half, .int .i64 e.prev, .int .i64 e.next, .int .i64 e.ap, .int .i64 e.ac, .int .i64 e.tp, .int .i64 e.tc, .slice xo e.old.length xoc, .slice xn e.new.length xnc, .slice xm e.moves.length xmc, .slice xl e.lives.length xlc, .slice xd e.dirty.length xdc, .slice xv e.opens.length xvc] 34)).alloc (.cells #[.int .i64 e.kind, .int .i64 e.txn, .int .i64 e.unit, .int .i64 e.half, .int .i64 e.prev, .int .i64 e.next, .int .i64 e.ap, .int .i64 e.ac, .int .i64 e.tp, .int .i64 e.tc, .slice yo e.old.length yoc, .slice yn e.new.length ync, .slice ym e.moves.length ymc, .slice yl e.lives.length ylc, .slice yd e.dirty.length ydc, .slice yv e.opens.length yvc] 34)).cell? ⟨w.heap.size + 1, 2, none⟩ = some (.int .i64 e.unit) := cB.cell 2
 have a3 : ((w.alloc (.cells #[.int .i64 e.kind, .int .i64 e.txn, .int .i64 e.unit, .int .i64 e.half, .int .i64 e.prev, .int .i64 e.next, .int .i64 e.ap, .int .i64 e.ac, .int .i64 e.tp, .int .i64 e.tc, .slice xo e.old.length xoc, .slice xn e.new.length xnc, .slice xm e.moves.length xmc, .slice xl e.lives.length xlc, .slice xd e.dirty.length xdc, .slice xv e.opens.length xvc] 34)).alloc (.cells #[.int .i64 e.kind, .int .i64 e.txn, .int .i64 e.unit, .int .i64 e.half, .int .i64 e.prev, .int .i64 e.next, .int .i64 e.ap, .int .i64 e.ac, .int .i64 e.tp, .int .i64 e.tc, .slice yo e.old.length yoc, .slice yn e.new.length ync, .slice ym e.moves.length ymc, .slice yl e.lives.length ylc, .slice yd e.dirty.length ydc, .slice yv e.opens.length yvc] 34)).cell? ⟨w.heap.size, 3, none⟩ = some (.int .i64 e.half) := cA.cell 3
 have b3 : ((w.alloc (.cells #[.int .i64 e.kind, .int .i64 e.txn, .int .i64 e.unit, .int .i64 e.half, .int .i64 e.prev, .int .i64 e.next, .int .i64 e.ap, .int .i64 e.ac, .int .i64 e.tp, .int .i64 e.tc, .slice xo e.old.length xoc, .slice xn e.new.length xnc, .slice xm e.moves.length xmc, .slice xl e.lives.length xlc, .slice xd e.dirty.length xdc, .slice xv e.opens.length xvc] 34)).alloc (.cells #[.int .i64 e.kind, .int .i64 e.txn, .int .i64 e.unit, .int .i64 e.half, .int .i64 e.prev, .int .i64 e.next, .int .i64 e.ap, .int .i64 e.ac, .int .i64 e.tp, .int .i64 e.tc, .slice yo e.old.length yoc, .slice yn e.new.length ync, .slice ym e.moves.length ymc, .slice yl e.lives.length ylc, .slice yd e.dirty.length ydc, .slice yv e.opens.length yvc] 34)).cell? ⟨w.heap.size + 1, 3, none⟩ = some (.int .i64 e.half) := cB.cell 3
 have a4 : ((w.alloc (.cells #[.int .i64 e.kind, .int .i64 e.txn, .int .i64 e.unit, .int .i64 e.half, .int .i64 e.prev, .int .i64 e.next, .int .i64 e.ap, .int .i64 e.ac, .int .i64 e.tp, .int .i64 e.tc, .slice xo e.old.length xoc, .slice xn e.new.length xnc, .slice xm e.moves.length xmc, .slice xl e.lives.length xlc, .slice xd e.dirty.length xdc, .slice xv e.opens.length xvc] 34)).alloc (.cells #[.int .i64 e.kind, .int .i64 e.txn, .int .i64 e.unit, .int .i64 e.half, .int .i64 e.prev, .int .i64 e.next, .int .i64 e.ap, .int .i64 e.ac, .int .i64 e.tp, .int .i64 e.tc, .slice yo e.old.length yoc, .slice yn e.new.length ync, .slice ym e.moves.length ymc, .slice yl e.lives.length ylc, .slice yd e.dirty.length ydc, .slice yv e.opens.length yvc] 34)).cell? ⟨w.heap.size, 4, none⟩ = some (.int .i64 e.prev) := cA.cell 4
 have b4 : ((w.alloc (.cells #[.int .i64 e.kind, .int .i64 e.txn, .int .i64 e.unit, .int .i64 e.half, .int .i64 e.prev, .int .i64 e.next, .int .i64 e.ap, .int .i64 e.ac, .int .i64 e.tp, .int .i64 e.tc, .slice xo e.old.length xoc, .slice xn e.new.length xnc, .slice xm e.moves.length xmc, .slice xl e.lives.length xlc, .slice xd e.dirty.length xdc, .slice xv e.opens.length xvc] 34)).alloc (.cells #[.int .i64 e.kind, .int .i64 e.txn, .int .i64 e.unit, .int .i64 e.half, .int .i64 e.prev, .int .i64 e.next, .int .i64 e.ap, .int .i64 e.ac, .int .i64 e.tp, .int .i64 e.tc, .slice yo e.old.length yoc, .slice yn e.new.length ync, .slice ym e.moves.length ymc, .slice yl e.lives.length ylc, .slice yd e.dirty.length ydc, .slice yv e.opens.length yvc] 34)).cell? ⟨w.heap.size + 1, 4, none⟩ = some (.int .i64 e.prev) := cB.cell 4
 have a5 : ((w.alloc (.cells #[.int .i64 e.kind, .int .i64 e.txn, .int .i64 e.unit, .int .i64 e.half, .int .i64 e.prev, .int .i64 e.next, .int .i64 e.ap, .int .i64 e.ac, .int .i64 e.tp, .int .i64 e.tc, .slice xo e.old.length xoc, .slice xn e.new.length xnc, .slice xm e.moves.length xmc, .slice xl e.lives.length xlc, .slice xd e.dirty.length xdc, .slice xv e.opens.length xvc] 34)).alloc (.cells #[.int .i64 e.kind, .int .i64 e.txn, .int .i64 e.unit, .int .i64 e.half, .int .i64 e.prev, .int .i64 e.next, .int .i64 e.ap, .int .i64 e.ac, .int .i64 e.tp, .int .i64 e.tc, .slice yo e.old.length yoc, .slice yn e.new.length ync, .slice ym e.moves.length ymc, .slice yl e.lives.length ylc, .slice yd e.dirty.length ydc, .slice yv e.opens.length yvc] 34)).cell? ⟨w.heap.size, 5, none⟩ = some (.int .i64 e.next) := cA.cell 5
 have b5 : ((w.alloc (.cells #[.int .i64 e.kind, .int .i64 e.txn, .int .i64 e.unit, .int .i64 e.half, .int .i64 e.prev, .int .i64 e.next, .int .i64 e.ap, .int .i64 e.ac, .int .i64 e.tp, .int .i64 e.tc, .slice xo e.old.length xoc, .slice xn e.new.length xnc, .slice xm e.moves.length xmc, .slice xl e.lives.length xlc, .slice xd e.dirty.length xdc, .slice xv e.opens.length xvc] 34)).alloc (.cells #[.int .i64 e.kind, .int .i64 e.txn, .int .i64 e.unit, .int .i64 e.half, .int .i64 e.prev, .int .i64 e.next, .int .i64 e.ap, .int .i64 e.ac, .int .i64 e.tp, .int .i64 e.tc, .slice yo e.old.length yoc, .slice yn e.new.length ync, .slice ym e.moves.length ymc, .slice yl e.lives.length ylc, .slice yd e.dirty.length ydc, .slice yv e.opens.length yvc] 34)).cell? ⟨w.heap.size + 1, 5, none⟩ = some (.int .i64 e.next) := cB.cell 5
 have a6 : ((w.alloc (.cells #[.int .i64 e.kind, .int .i64 e.txn, .int .i64 e.unit, .int .i64 e.half, .int .i64 e.prev, .int .i64 e.next, .int .i64 e.ap, .int .i64 e.ac, .int .i64 e.tp, .int .i64 e.tc, .slice xo e.old.length xoc, .slice xn e.new.length xnc, .slice xm e.moves.length xmc, .slice xl e.lives.length xlc, .slice xd e.dirty.length xdc, .slice xv e.opens.length xvc] 34)).alloc (.cells #[.int .i64 e.kind, .int .i64 e.txn, .int .i64 e.unit, .int .i64 e.half, .int .i64 e.prev, .int .i64 e.next, .int .i64 e.ap, .int .i64 e.ac, .int .i64 e.tp, .int .i64 e.tc, .slice yo e.old.length yoc, .slice yn e.new.length ync, .slice ym e.moves.length ymc, .slice yl e.lives.length ylc, .slice yd e.dirty.length ydc, .slice yv e.opens.length yvc] 34)).cell? ⟨w.heap.size, 6, none⟩ = some (.int .i64 e.ap) := cA.cell 6
 have b6 : ((w.alloc (.cells #[.int .i64 e.kind, .int .i64 e.txn, .int .i64 e.unit, .int .i64 e.half, .int .i64 e.prev, .int .i64 e.next, .int .i64 e.ap, .int .i64 e.ac, .int .i64 e.tp, .int .i64 e.tc, .slice xo e.old.length xoc, .slice xn e.new.length xnc, .slice xm e.moves.length xmc, .slice xl e.lives.length xlc, .slice xd e.dirty.length xdc, .slice xv e.opens.length xvc] 34)).alloc (.cells #[.int .i64 e.kind, .int .i64 e.txn, .int .i64 e.unit, .int .i64 e.half, .int .i64 e.prev, .int .i64 e.next, .int .i64 e.ap, .int .i64 e.ac, .int .i64 e.tp, .int .i64 e.tc, .slice yo e.old.length yoc, .slice yn e.new.length ync, .slice ym e.moves.length ymc, .slice yl e.lives.length ylc, .slice yd e.dirty.length ydc, .slice yv e.opens.length yvc] 34)).cell? ⟨w.heap.size + 1, 6, none⟩ = some (.int .i64 e.ap) := cB.cell 6
 have a7 : ((w.alloc (.cells #[.int .i64 e.kind, .int .i64 e.txn, .int .i64 e.unit, .int .i64 e.half, .int .i64 e.prev, .int .i64 e.next, .int .i64 e.ap, .int .i64 e.ac, .int .i64 e.tp, .int .i64 e.tc, .slice xo e.old.length xoc, .slice xn e.new.length xnc, .slice xm e.moves.length xmc, .slice xl e.lives.length xlc, .slice xd e.dirty.length xdc, .slice xv e.opens.length xvc] 34)).alloc (.cells #[.int .i64 e.kind, .int .i64 e.txn, .int .i64 e.unit, .int .i64 e.half, .int .i64 e.prev, .int .i64 e.next, .int .i64 e.ap, .int .i64 e.ac, .int .i64 e.tp, .int .i64 e.tc, .slice yo e.old.length yoc, .slice yn e.new.length ync, .slice ym e.moves.length ymc, .slice yl e.lives.length ylc, .slice yd e.dirty.length ydc, .slice yv e.opens.length yvc] 34)).cell? ⟨w.heap.size, 7, none⟩ = some (.int .i64 e.ac) := cA.cell 7
 have b7 : ((w.alloc (.cells #[.int .i64 e.kind, .int .i64 e.txn, .int .i64 e.unit, .int .i64 e.half, .int .i64 e.prev, .int .i64 e.next, .int .i64 e.ap, .int .i64 e.ac, .int .i64 e.tp, .int .i64 e.tc, .slice xo e.old.length xoc, .slice xn e.new.length xnc, .slice xm e.moves.length xmc, .slice xl e.lives.length xlc, .slice xd e.dirty.length xdc, .slice xv e.opens.length xvc] 34)).alloc (.cells #[.int .i64 e.kind, .int .i64 e.txn, .int .i64 e.unit, .int .i64 e.half, .int .i64 e.prev, .int .i64 e.next, .int .i64 e.ap, .int .i64 e.ac, .int .i64 e.tp, .int .i64 e.tc, .slice yo e.old.length yoc, .slice yn e.new.length ync, .slice ym e.moves.length ymc, .slice yl e.lives.length ylc, .slice yd e.dirty.length ydc, .slice yv e.opens.length yvc] 34)).cell? ⟨w.heap.size + 1, 7, none⟩ = some (.int .i64 e.ac) := cB.cell 7
 have a8 : ((w.alloc (.cells #[.int .i64 e.kind, .int .i64 e.txn, .int .i64 e.unit, .int .i64 e.half, .int .i64 e.prev, .int .i64 e.next, .int .i64 e.ap, .int .i64 e.ac, .int .i64 e.tp, .int .i64 e.tc, .slice xo e.old.length xoc, .slice xn e.new.length xnc, .slice xm e.moves.length xmc, .slice xl e.lives.length xlc, .slice xd e.dirty.length xdc, .slice xv e.opens.length xvc] 34)).alloc (.cells #[.int .i64 e.kind, .int .i64 e.txn, .int .i64 e.unit, .int .i64 e.half, .int .i64 e.prev, .int .i64 e.next, .int .i64 e.ap, .int .i64 e.ac, .int .i64 e.tp, .int .i64 e.tc, .slice yo e.old.length yoc, .slice yn e.new.length ync, .slice ym e.moves.length ymc, .slice yl e.lives.length ylc, .slice yd e.dirty.length ydc, .slice yv e.opens.length yvc] 34)).cell? ⟨w.heap.size, 8, none⟩ = some (.int .i64 e.tp) := cA.cell 8
 have b8 : ((w.alloc (.cells #[.int .i64 e.kind, .int .i64 e.txn, .int .i64 e.unit, .int .i64 e.half, .int .i64 e.prev, .int .i64 e.next, .int .i64 e.ap, .int .i64 e.ac, .int .i64 e.tp, .int .i64 e.tc, .slice xo e.old.length xoc, .slice xn e.new.length xnc, .slice xm e.moves.length xmc, .slice xl e.lives.length xlc, .slice xd e.dirty.length xdc, .slice xv e.opens.length xvc] 34)).alloc (.cells #[.int .i64 e.kind, .int .i64 e.txn, .int .i64 e.unit, .int .i64 e.half, .int .i64 e.prev, .int .i64 e.next, .int .i64 e.ap, .int .i64 e.ac, .int .i64 e.tp, .int .i64 e.tc, .slice yo e.old.length yoc, .slice yn e.new.length ync, .slice ym e.moves.length ymc, .slice yl e.lives.length ylc, .slice yd e.dirty.length ydc, .slice yv e.opens.length yvc] 34)).cell? ⟨w.heap.size + 1, 8, none⟩ = some (.int .i64 e.tp) := cB.cell 8
 have a9 : ((w.alloc (.cells #[.int .i64 e.kind, .int .i64 e.txn, .int .i64 e.unit, .int .i64 e.half, .int .i64 e.prev, .int .i64 e.next, .int .i64 e.ap, .int .i64 e.ac, .int .i64 e.tp, .int .i64 e.tc, .slice xo e.old.length xoc, .slice xn e.new.length xnc, .slice xm e.moves.length xmc, .slice xl e.lives.length xlc, .slice xd e.dirty.length xdc, .slice xv e.opens.length xvc] 34)).alloc (.cells #[.int .i64 e.kind, .int .i64 e.txn, .int .i64 e.unit, .int .i64 e.half, .int .i64 e.prev, .int .i64 e.next, .int .i64 e.ap, .int .i64 e.ac, .int .i64 e.tp, .int .i64 e.tc, .slice yo e.old.length yoc, .slice yn e.new.length ync, .slice ym e.moves.length ymc, .slice yl e.lives.length ylc, .slice yd e.dirty.length ydc, .slice yv e.opens.length yvc] 34)).cell? ⟨w.heap.size, 9, none⟩ = some (.int .i64 e.tc) := cA.cell 9
 have b9 : ((w.alloc (.cells #[.int .i64 e.kind, .int .i64 e.txn, .int .i64 e.unit, .int .i64 e.half, .int .i64 e.prev, .int .i64 e.next, .int .i64 e.ap, .int .i64 e.ac, .int .i64 e.tp, .int .i64 e.tc, .slice xo e.old.length xoc, .slice xn e.new.length xnc, .slice xm e.moves.length xmc, .slice xl e.lives.length xlc, .slice xd e.dirty.length xdc, .slice xv e.opens.length xvc] 34)).alloc (.cells #[.int .i64 e.kind, .int .i64 e.txn, .int .i64 e.unit, .int .i64 e.half, .int .i64 e.prev, .int .i64 e.next, .int .i64 e.ap, .int .i64 e.ac, .int .i64 e.tp, .int .i64 e.tc, .slice yo e.old.length yoc, .slice yn e.new.length ync, .slice ym e.moves.length ymc, .slice yl e.lives.length ylc, .slice yd e.dirty.length ydc, .slice yv e.opens.length yvc] 34)).cell? ⟨w.heap.size + 1, 9, none⟩ = some (.int .i64 e.tc) := cB.cell 9
 have a10 : ((w.alloc (.cells #[.int .i64 e.kind, .int .i64 e.txn, .int .i64 e.unit, .int .i64 e.half, .int .i64 e.prev, .int .i64 e.next, .int .i64 e.ap, .int .i64 e.ac, .int .i64 e.tp, .int .i64 e.tc, .slice xo e.old.length xoc, .slice xn e.new.length xnc, .slice xm e.moves.length xmc, .slice xl e.lives.length xlc, .slice xd e.dirty.length xdc, .slice xv e.opens.length xvc] 34)).alloc (.cells #[.int .i64 e.kind, .int .i64 e.txn, .int .i64 e.unit, .int .i64 e.half, .int .i64 e.prev, .int .i64 e.next, .int .i64 e.ap, .int .i64 e.ac, .int .i64 e.tp, .int .i64 e.tc, .slice yo e.old.length yoc, .slice yn e.new.length ync, .slice ym e.moves.length ymc, .slice yl e.lives.length ylc, .slice yd e.dirty.length ydc, .slice yv e.opens.length yvc] 34)).cell? ⟨w.heap.size, 10, none⟩ = some (.slice xo e.old.length xoc) := cA.cell 10
 have b10 : ((w.alloc (.cells #[.int .i64 e.kind, .int .i64 e.txn, .int .i64 e.unit, .int .i64 e.half, .int .i64 e.prev, .int .i64 e.next, .int .i64 e.ap, .int .i64 e.ac, .int .i64 e.tp, .int .i64 e.tc, .slice xo e.old.length xoc, .slice xn e.new.length xnc, .slice xm e.moves.length xmc, .slice xl e.lives.length xlc, .slice xd e.dirty.length xdc, .slice xv e.opens.length xvc] 34)).alloc (.cells #[.int .i64 e.kind, .int .i64 e.txn, .int .i64 e.unit, .int .i64 e.half, .int .i64 e.prev, .int .i64 e.next, .int .i64 e.ap, .int .i64 e.ac, .int .i64 e.tp, .int .i64 e.tc, .slice yo e.old.length yoc, .slice yn e.new.length ync, .slice ym e.moves.length ymc, .slice yl e.lives.length ylc, .slice yd e.dirty.length ydc, .slice yv e.opens.length yvc] 34)).cell? ⟨w.heap.size + 1, 10, none⟩ = some (.slice yo e.old.length yoc) := cB.cell 10
 have a11 : ((w.alloc (.cells #[.int .i64 e.kind, .int .i64 e.txn, .int .i64 e.unit, .int .i64 e.half, .int .i64 e.prev, .int .i64 e.next, .int .i64 e.ap, .int .i64 e.ac, .int .i64 e.tp, .int .i64 e.tc, .slice xo e.old.length xoc, .slice xn e.new.length xnc, .slice xm e.moves.length xmc, .slice xl e.lives.length xlc, .slice xd e.dirty.length xdc, .slice xv e.opens.length xvc] 34)).alloc (.cells #[.int .i64 e.kind, .int .i64 e.txn, .int .i64 e.unit, .int .i64 e.half, .int .i64 e.prev, .int .i64 e.next, .int .i64 e.ap, .int .i64 e.ac, .int .i64 e.tp, .int .i64 e.tc, .slice yo e.old.length yoc, .slice yn e.new.length ync, .slice ym e.moves.length ymc, .slice yl e.lives.length ylc, .slice yd e.dirty.length ydc, .slice yv e.opens.length yvc] 34)).cell? ⟨w.heap.size, 11, none⟩ = some (.slice xn e.new.length xnc) := cA.cell 11
 have b11 : ((w.alloc (.cells #[.int .i64 e.kind, .int .i64 e.txn, .int .i64 e.unit, .int .i64 e.half, .int .i64 e.prev, .int .i64 e.next, .int .i64 e.ap, .int .i64 e.ac, .int .i64 e.tp, .int .i64 e.tc, .slice xo e.old.length xoc, .slice xn e.new.length xnc, .slice xm e.moves.length xmc, .slice xl e.lives.length xlc, .slice xd e.dirty.length xdc, .slice xv e.opens.length xvc] 34)).alloc (.cells #[.int .i64 e.kind, .int .i64 e.txn, .int .i64 e.unit, .int .i64 e.half, .int .i64 e.prev, .int .i64 e.next, .int .i64 e.ap, .int .i64 e.ac, .int .i64 e.tp, .int .i64 e.tc, .slice yo e.old.length yoc, .slice yn e.new.length ync, .slice ym e.moves.length ymc, .slice yl e.lives.length ylc, .slice yd e.dirty.length ydc, .slice yv e.opens.length yvc] 34)).cell? ⟨w.heap.size + 1, 11, none⟩ = some (.slice yn e.new.length ync) := cB.cell 11
 have a12 : ((w.alloc (.cells #[.int .i64 e.kind, .int .i64 e.txn, .int .i64 e.unit, .int .i64 e.half, .int .i64 e.prev, .int .i64 e.next, .int .i64 e.ap, .int .i64 e.ac, .int .i64 e.tp, .int .i64 e.tc, .slice xo e.old.length xoc, .slice xn e.new.length xnc, .slice xm e.moves.length xmc, .slice xl e.lives.length xlc, .slice xd e.dirty.length xdc, .slice xv e.opens.length xvc] 34)).alloc (.cells #[.int .i64 e.kind, .int .i64 e.txn, .int .i64 e.unit, .int .i64 e.half, .int .i64 e.prev, .int .i64 e.next, .int .i64 e.ap, .int .i64 e.ac, .int .i64 e.tp, .int .i64 e.tc, .slice yo e.old.length yoc, .slice yn e.new.length ync, .slice ym e.moves.length ymc, .slice yl e.lives.length ylc, .slice yd e.dirty.length ydc, .slice yv e.opens.length yvc] 34)).cell? ⟨w.heap.size, 12, none⟩ = some (.slice xm e.moves.length xmc) := cA.cell 12
 have b12 : ((w.alloc (.cells #[.int .i64 e.kind, .int .i64 e.txn, .int .i64 e.unit, .int .i64 e.half, .int .i64 e.prev, .int .i64 e.next, .int .i64 e.ap, .int .i64 e.ac, .int .i64 e.tp, .int .i64 e.tc, .slice xo e.old.length xoc, .slice xn e.new.length xnc, .slice xm e.moves.length xmc, .slice xl e.lives.length xlc, .slice xd e.dirty.length xdc, .slice xv e.opens.length xvc] 34)).alloc (.cells #[.int .i64 e.kind, .int .i64 e.txn, .int .i64 e.unit, .int .i64 e.half, .int .i64 e.prev, .int .i64 e.next, .int .i64 e.ap, .int .i64 e.ac, .int .i64 e.tp, .int .i64 e.tc, .slice yo e.old.length yoc, .slice yn e.new.length ync, .slice ym e.moves.length ymc, .slice yl e.lives.length ylc, .slice yd e.dirty.length ydc, .slice yv e.opens.length yvc] 34)).cell? ⟨w.heap.size + 1, 12, none⟩ = some (.slice ym e.moves.length ymc) := cB.cell 12
 have hsm := PE.small he
 have HM := Lib.hid (fun w' (hs' : Still w w') => same_mv (w := w') (.slice xm e.moves.length xmc) (.slice ym e.moves.length ymc) e.moves.length e.moves (h.m.still hs') (k.m.still hs') rfl hsm.1)
 have HL := Lib.hid (fun w' (hs' : Still w w') => same_lv (w := w') (.slice xl e.lives.length xlc) (.slice yl e.lives.length ylc) e.lives.length e.lives (h.l.still hs') (k.l.still hs') rfl hsm.2.1)
 have HD := Lib.hid (fun w' (hs' : Still w w') => same_dt (w := w') (.slice xd e.dirty.length xdc) (.slice yd e.dirty.length ydc) e.dirty.length e.dirty (h.d.still hs') (k.d.still hs') rfl hsm.2.2.1)
 have HV := Lib.hid (fun w' (hs' : Still w w') => same_op (w := w') (.slice xv e.opens.length xvc) (.slice yv e.opens.length yvc) e.opens.length e.opens (h.p.only hs' fun _ _ e => e) (k.p.only hs' fun _ _ e => e) rfl hsm.2.2.2.1 hsm.2.2.2.2)
 have HS := Lib.hid hs
 have HR := Lib.hid (Still.refl ((w.alloc (.cells #[.int .i64 e.kind, .int .i64 e.txn, .int .i64 e.unit, .int .i64 e.half, .int .i64 e.prev, .int .i64 e.next, .int .i64 e.ap, .int .i64 e.ac, .int .i64 e.tp, .int .i64 e.tc, .slice xo e.old.length xoc, .slice xn e.new.length xnc, .slice xm e.moves.length xmc, .slice xl e.lives.length xlc, .slice xd e.dirty.length xdc, .slice xv e.opens.length xvc] 34)).alloc (.cells #[.int .i64 e.kind, .int .i64 e.txn, .int .i64 e.unit, .int .i64 e.half, .int .i64 e.prev, .int .i64 e.next, .int .i64 e.ap, .int .i64 e.ac, .int .i64 e.tp, .int .i64 e.tc, .slice yo e.old.length yoc, .slice yn e.new.length ync, .slice ym e.moves.length ymc, .slice yl e.lives.length ylc, .slice yd e.dirty.length ydc, .slice yv e.opens.length yvc] 34)))
 clear h k hs cA cB hz he hsm
 go_enter Tryz.func41, Tryz.ntmps41
 go_wp2_with fail
 refine (HM.out _ HS.out).mono ?_
 rintro en w2 ⟨rfl, hd2⟩
 have hs2 := hd2.still
 have HS2 := Lib.hid (And.intro (HS.out.trans hs2) hs2)
 obtain ⟨⟨p1, p2⟩, -, -⟩ := HK.out _ HS2.out.2
 clear hs2 hd2
 go_wp2_with fail
 refine (HL.out _ HS2.out.1).mono ?_
 rintro en w3 ⟨rfl, hd3⟩
 have hs3 := hd3.still
 have HS3 := Lib.hid (And.intro (HS2.out.1.trans hs3) (HS2.out.2.trans hs3))
 obtain ⟨-, ⟨p3, p4⟩, -⟩ := HK.out _ HS3.out.2
 clear hs3 hd3
 go_wp2_with fail
 refine (HD.out _ HS3.out.1).mono ?_
 rintro en w4 ⟨rfl, hd4⟩
 have hs4 := hd4.still
 have HS4 := Lib.hid (And.intro (HS3.out.1.trans hs4) (HS3.out.2.trans hs4))
 obtain ⟨-, -, p5, p6⟩ := HK.out _ HS4.out.2
 clear hs4 hd4
 go_wp2_with fail
 refine (HV.out _ HS4.out.1).mono ?_
 rintro en w5 ⟨rfl, hd5⟩
 have hs5 := hd5.still
 have F := Lib.hid (show StPost w (.bool true) (.returned (.bool true)) w5 from ⟨rfl, HS4.out.1.trans hs5⟩)
 clear hs5 hd5
 go_wp2_with fail
 go_ret
 exact F.out
end Go.Proofs.YtojkggppcmdepaaGreat

namespace Go.Proofs.YtojkggppcmdepaaGreat
open Go.RowKit Go.Wh Go.Maps

theorem Ents.still2 {w w' : World} {P : Nat → Prop} {lv : Value} {es : List PE} (h : Ents w P lv es) (hs : Still w w') : Ents w' P lv es := h.still hs
set_option maxHeartbeats 8000000 in
set_option maxRecDepth 100000 in
theorem same_entries {w : World} {P Q : Nat → Prop} (a b : Value) (es : List PE) (ha : Ents w P a es) (hb : Ents w Q b es) (hm : ∀ e ∈ es, e.may = true) (hl : es.length ≤ 100000) :
 Calls Tryz.prog 12 #[a, b] w (StPost w (.bool true)) := by
 obtain ⟨m, hml⟩ : ∃ m, es.length = m := ⟨_, rfl⟩
 have H := Lib.hid (And.intro ha (And.intro hb (And.intro hm (And.intro hl hml))))
 obtain ⟨xa, xc, rfl⟩ := ha.form
 obtain ⟨ya, yc, rfl⟩ := hb.form
 clear ha hb hl hm
 rw [hml]
 clear hml
 go_enter Tryz.func12, Tryz.ntmps12
 go_wp2_with fail
 go_loopw [5] (fun s wr => ∃ k : Nat, s = .int .i64 k ∧ k ≤ m ∧ Still w wr) (fun s _ => m - (intOf s).toNat)
 case atStart => exact ⟨0, rfl, Nat.zero_le _, Still.refl _⟩
 case round =>
  obtain ⟨i, rfl, hk, hst⟩ := hrel
  by_cases hi : i < m
  · obtain ⟨e, he⟩ : ∃ e, es[i]? = some e := ⟨_, List.getElem?_eq_getElem (by have := H.out.2.2.2.2; omega)⟩
    have hmay := H.out.2.2.1 e (List.mem_of_getElem? he)
    obtain ⟨g, o, xo, xoc, xn, xnc, xm, xmc, xl, xlc, xd, xdc, xv, xvc, hxa, -, hxi, hxs⟩ := (H.out.1.still hst).at he
    obtain ⟨g2, o2, yo, yoc, yn, ync, ym, ymc, yl, ylc, yd, ydc, yv, yvc, hya, -, hyi, hys⟩ := (H.out.2.1.still hst).at he
    cases hxa
    cases hya
    have c0 : wr.cell? ⟨g, o + i * 16, none⟩ = some (.int .i64 e.kind) := hxs 0 _ (by decide) rfl
    have e0 : wr.cell? ⟨g2, o2 + i * 16, none⟩ = some (.int .i64 e.kind) := hys 0 _ (by decide) rfl
    have c1 : wr.cell? ⟨g, o + i * 16 + 1, none⟩ = some (.int .i64 e.txn) := by rw [Nat.add_assoc]; exact hxs 1 _ (by decide) rfl
    have e1 : wr.cell? ⟨g2, o2 + i * 16 + 1, none⟩ = some (.int .i64 e.txn) := by rw [Nat.add_assoc]; exact hys 1 _ (by decide) rfl
    have c2 : wr.cell? ⟨g, o + i * 16 + 2, none⟩ = some (.int .i64 e.unit) := by rw [Nat.add_assoc]; exact hxs 2 _ (by decide) rfl
    have e2 : wr.cell? ⟨g2, o2 + i * 16 + 2, none⟩ = some (.int .i64 e.unit) := by rw [Nat.add_assoc]; exact hys 2 _ (by decide) rfl
    have c3 : wr.cell? ⟨g, o + i * 16 + 3, none⟩ = some (.int .i64 e.half) := by rw [Nat.add_assoc]; exact hxs 3 _ (by decide) rfl
    have e3 : wr.cell? ⟨g2, o2 + i * 16 + 3, none⟩ = some (.int .i64 e.half) := by rw [Nat.add_assoc]; exact hys 3 _ (by decide) rfl
    have c4 : wr.cell? ⟨g, o + i * 16 + 4, none⟩ = some (.int .i64 e.prev) := by rw [Nat.add_assoc]; exact hxs 4 _ (by decide) rfl
    have e4 : wr.cell? ⟨g2, o2 + i * 16 + 4, none⟩ = some (.int .i64 e.prev) := by rw [Nat.add_assoc]; exact hys 4 _ (by decide) rfl
    have c5 : wr.cell? ⟨g, o + i * 16 + 5, none⟩ = some (.int .i64 e.next) := by rw [Nat.add_assoc]; exact hxs 5 _ (by decide) rfl
    have e5 : wr.cell? ⟨g2, o2 + i * 16 + 5, none⟩ = some (.int .i64 e.next) := by rw [Nat.add_assoc]; exact hys 5 _ (by decide) rfl
    have c6 : wr.cell? ⟨g, o + i * 16 + 6, none⟩ = some (.int .i64 e.ap) := by rw [Nat.add_assoc]; exact hxs 6 _ (by decide) rfl
    have e6 : wr.cell? ⟨g2, o2 + i * 16 + 6, none⟩ = some (.int .i64 e.ap) := by rw [Nat.add_assoc]; exact hys 6 _ (by decide) rfl
    have c7 : wr.cell? ⟨g, o + i * 16 + 7, none⟩ = some (.int .i64 e.ac) := by rw [Nat.add_assoc]; exact hxs 7 _ (by decide) rfl
    have e7 : wr.cell? ⟨g2, o2 + i * 16 + 7, none⟩ = some (.int .i64 e.ac) := by rw [Nat.add_assoc]; exact hys 7 _ (by decide) rfl
    have c8 : wr.cell? ⟨g, o + i * 16 + 8, none⟩ = some (.int .i64 e.tp) := by rw [Nat.add_assoc]; exact hxs 8 _ (by decide) rfl
    have e8 : wr.cell? ⟨g2, o2 + i * 16 + 8, none⟩ = some (.int .i64 e.tp) := by rw [Nat.add_assoc]; exact hys 8 _ (by decide) rfl
    have c9 : wr.cell? ⟨g, o + i * 16 + 9, none⟩ = some (.int .i64 e.tc) := by rw [Nat.add_assoc]; exact hxs 9 _ (by decide) rfl
    have e9 : wr.cell? ⟨g2, o2 + i * 16 + 9, none⟩ = some (.int .i64 e.tc) := by rw [Nat.add_assoc]; exact hys 9 _ (by decide) rfl
    have c10 : wr.cell? ⟨g, o + i * 16 + 10, none⟩ = some (.slice xo e.old.length xoc) := by rw [Nat.add_assoc]; exact hxs 10 _ (by decide) rfl
    have e10 : wr.cell? ⟨g2, o2 + i * 16 + 10, none⟩ = some (.slice yo e.old.length yoc) := by rw [Nat.add_assoc]; exact hys 10 _ (by decide) rfl
    have c11 : wr.cell? ⟨g, o + i * 16 + 11, none⟩ = some (.slice xn e.new.length xnc) := by rw [Nat.add_assoc]; exact hxs 11 _ (by decide) rfl
    have e11 : wr.cell? ⟨g2, o2 + i * 16 + 11, none⟩ = some (.slice yn e.new.length ync) := by rw [Nat.add_assoc]; exact hys 11 _ (by decide) rfl
    have c12 : wr.cell? ⟨g, o + i * 16 + 12, none⟩ = some (.slice xm e.moves.length xmc) := by rw [Nat.add_assoc]; exact hxs 12 _ (by decide) rfl
    have e12 : wr.cell? ⟨g2, o2 + i * 16 + 12, none⟩ = some (.slice ym e.moves.length ymc) := by rw [Nat.add_assoc]; exact hys 12 _ (by decide) rfl
    have c13 : wr.cell? ⟨g, o + i * 16 + 13, none⟩ = some (.slice xl e.lives.length xlc) := by rw [Nat.add_assoc]; exact hxs 13 _ (by decide) rfl
    have e13 : wr.cell? ⟨g2, o2 + i * 16 + 13, none⟩ = some (.slice yl e.lives.length ylc) := by rw [Nat.add_assoc]; exact hys 13 _ (by decide) rfl
    have c14 : wr.cell? ⟨g, o + i * 16 + 14, none⟩ = some (.slice xd e.dirty.length xdc) := by rw [Nat.add_assoc]; exact hxs 14 _ (by decide) rfl
    have e14 : wr.cell? ⟨g2, o2 + i * 16 + 14, none⟩ = some (.slice yd e.dirty.length ydc) := by rw [Nat.add_assoc]; exact hys 14 _ (by decide) rfl
    have c15 : wr.cell? ⟨g, o + i * 16 + 15, none⟩ = some (.slice xv e.opens.length xvc) := by rw [Nat.add_assoc]; exact hxs 15 _ (by decide) rfl
    have e15 : wr.cell? ⟨g2, o2 + i * 16 + 15, none⟩ = some (.slice yv e.opens.length yvc) := by rw [Nat.add_assoc]; exact hys 15 _ (by decide) rfl
    have b1 : decide ((i : Int) < (m : Int)) = true := by simp; omega
    have b2 : decide (i < m) = true := by simp; omega
    have b3 : (0 : Int) ≤ (i : Int) := by omega
    have b4 : (i : Int) < (m : Int) := by omega
    have u9 : IntKind.i64.wrap ((i : Int) + 1) = (i : Int) + 1 := IntWalk.i64_in _ (by have := H.out.2.2.2; omega)
    have HSE := Lib.hid (fun w' (hs' : Still wr w') => same_entry (w := w') xo xn xm xl xd xv yo yn ym yl yd yv xoc xnc xmc xlc xdc xvc yoc ync ymc ylc ydc yvc hmay (hxi.still hs') (hyi.still hs'))
    have HT := Lib.hid hst
    have SSR := Lib.hid (fun w' (hs : Still wr w') => show w'.cell? ⟨g, o + i * 16, none⟩ = some (.int .i64 e.kind) ∧ w'.cell? ⟨g2, o2 + i * 16, none⟩ = some (.int .i64 e.kind) ∧ w'.cell? ⟨g, o + i * 16 + 1, none⟩ = some (.int .i64 e.txn) ∧ w'.cell? ⟨g2, o2 + i * 16 + 1, none⟩ = some (.int .i64 e.txn) ∧ w'.cell? ⟨g, o + i * 16 + 2, none⟩ = some (.int .i64 e.unit) ∧ w'.cell? ⟨g2, o2 + i * 16 + 2, none⟩ = some (.int .i64 e.unit) ∧ w'.cell? ⟨g, o + i * 16 + 3, none⟩ = some (.int .i64 e.half) ∧ w'.cell? ⟨g2, o2 + i * 16 + 3, none⟩ = some (.int .i64 e.half) ∧ w'.cell? ⟨g, o + i * 16 + 4, none⟩ = some (.int .i64 e.prev) ∧ w'.cell? ⟨g2, o2 + i * 16 + 4, none⟩ = some (.int .i64 e.prev) ∧ w'.cell? ⟨g, o + i * 16 + 5, none⟩ = some (.int .i64 e.next) ∧ w'.cell? ⟨g2, o2 + i * 16 + 5, none⟩ = some (.int .i64 e.next) ∧ w'.cell? ⟨g, o + i * 16 + 6, none⟩ = some (.int .i64 e.ap) ∧ w'.cell? ⟨g2, o2 + i * 16 + 6, none⟩ = some (.int .i64 e.ap) ∧ w'.cell? ⟨g, o + i * 16 + 7, none⟩ = some (.int .i64 e.ac) ∧ w'.cell? ⟨g2, o2 + i * 16 + 7, none⟩ = some (.int .i64 e.ac) ∧ w'.cell? ⟨g, o + i * 16 + 8, none⟩ = some (.int .i64 e.tp) ∧ w'.cell? ⟨g2, o2 + i * 16 + 8, none⟩ = some (.int .i64 e.tp) ∧ w'.cell? ⟨g, o + i * 16 + 9, none⟩ = some (.int .i64 e.tc) ∧ w'.cell? ⟨g2, o2 + i * 16 + 9, none⟩ = some (.int .i64 e.tc) ∧ w'.cell? ⟨g, o + i * 16 + 10, none⟩ = some (.slice xo e.old.length xoc) ∧ w'.cell? ⟨g2, o2 + i * 16 + 10, none⟩ = some (.slice yo e.old.length yoc) ∧ w'.cell? ⟨g, o + i * 16 + 11, none⟩ = some (.slice xn e.new.length xnc) ∧ w'.cell? ⟨g2, o2 + i * 16 + 11, none⟩ = some (.slice yn e.new.length ync) ∧ w'.cell? ⟨g, o + i * 16 + 12, none⟩ = some (.slice xm e.moves.length xmc) ∧ w'.cell? ⟨g2, o2 + i * 16 + 12, none⟩ = some (.slice ym e.moves.length ymc) ∧ w'.cell? ⟨g, o + i * 16 + 13, none⟩ = some (.slice xl e.lives.length xlc) ∧ w'.cell? ⟨g2, o2 + i * 16 + 13, none⟩ = some (.slice yl e.lives.length ylc) ∧ w'.cell? ⟨g, o + i * 16 + 14, none⟩ = some (.slice xd e.dirty.length xdc) ∧ w'.cell? ⟨g2, o2 + i * 16 + 14, none⟩ = some (.slice yd e.dirty.length ydc) ∧ w'.cell? ⟨g, o + i * 16 + 15, none⟩ = some (.slice xv e.opens.length xvc) ∧ w'.cell? ⟨g2, o2 + i * 16 + 15, none⟩ = some (.slice yv e.opens.length yvc) from ⟨Still.cell hs c0, Still.cell hs e0, Still.cell hs c1, Still.cell hs e1, Still.cell hs c2, Still.cell hs e2, Still.cell hs c3, Still.cell hs e3, Still.cell hs c4, Still.cell hs e4, Still.cell hs c5, Still.cell hs e5, Still.cell hs c6, Still.cell hs e6, Still.cell hs c7, Still.cell hs e7, Still.cell hs c8, Still.cell hs e8, Still.cell hs c9, Still.cell hs e9, Still.cell hs c10, Still.cell hs e10, Still.cell hs c11, Still.cell hs e11, Still.cell hs c12, Still.cell hs e12, Still.cell hs c13, Still.cell hs e13, Still.cell hs c14, Still.cell hs e14, Still.cell hs c15, Still.cell hs e15⟩)
    clear hxs hys hxi hyi hst hmay he
    go_wp2_with fail
    go_region_held3 (fun w' => w'.cell? ⟨g, o + i * 16, none⟩ = some (.int .i64 e.kind) ∧ w'.cell? ⟨g2, o2 + i * 16, none⟩ = some (.int .i64 e.kind) ∧ w'.cell? ⟨g, o + i * 16 + 1, none⟩ = some (.int .i64 e.txn) ∧ w'.cell? ⟨g2, o2 + i * 16 + 1, none⟩ = some (.int .i64 e.txn) ∧ w'.cell? ⟨g, o + i * 16 + 2, none⟩ = some (.int .i64 e.unit) ∧ w'.cell? ⟨g2, o2 + i * 16 + 2, none⟩ = some (.int .i64 e.unit) ∧ w'.cell? ⟨g, o + i * 16 + 3, none⟩ = some (.int .i64 e.half) ∧ w'.cell? ⟨g2, o2 + i * 16 + 3, none⟩ = some (.int .i64 e.half) ∧ w'.cell? ⟨g, o + i * 16 + 4, none⟩ = some (.int .i64 e.prev) ∧ w'.cell? ⟨g2, o2 + i * 16 + 4, none⟩ = some (.int .i64 e.prev) ∧ w'.cell? ⟨g, o + i * 16 + 5, none⟩ = some (.int .i64 e.next) ∧ w'.cell? ⟨g2, o2 + i * 16 + 5, none⟩ = some (.int .i64 e.next) ∧ w'.cell? ⟨g, o + i * 16 + 6, none⟩ = some (.int .i64 e.ap) ∧ w'.cell? ⟨g2, o2 + i * 16 + 6, none⟩ = some (.int .i64 e.ap) ∧ w'.cell? ⟨g, o + i * 16 + 7, none⟩ = some (.int .i64 e.ac) ∧ w'.cell? ⟨g2, o2 + i * 16 + 7, none⟩ = some (.int .i64 e.ac) ∧ w'.cell? ⟨g, o + i * 16 + 8, none⟩ = some (.int .i64 e.tp) ∧ w'.cell? ⟨g2, o2 + i * 16 + 8, none⟩ = some (.int .i64 e.tp) ∧ w'.cell? ⟨g, o + i * 16 + 9, none⟩ = some (.int .i64 e.tc) ∧ w'.cell? ⟨g2, o2 + i * 16 + 9, none⟩ = some (.int .i64 e.tc) ∧ w'.cell? ⟨g, o + i * 16 + 10, none⟩ = some (.slice xo e.old.length xoc) ∧ w'.cell? ⟨g2, o2 + i * 16 + 10, none⟩ = some (.slice yo e.old.length yoc) ∧ w'.cell? ⟨g, o + i * 16 + 11, none⟩ = some (.slice xn e.new.length xnc) ∧ w'.cell? ⟨g2, o2 + i * 16 + 11, none⟩ = some (.slice yn e.new.length ync) ∧ w'.cell? ⟨g, o + i * 16 + 12, none⟩ = some (.slice xm e.moves.length xmc) ∧ w'.cell? ⟨g2, o2 + i * 16 + 12, none⟩ = some (.slice ym e.moves.length ymc) ∧ w'.cell? ⟨g, o + i * 16 + 13, none⟩ = some (.slice xl e.lives.length xlc) ∧ w'.cell? ⟨g2, o2 + i * 16 + 13, none⟩ = some (.slice yl e.lives.length ylc) ∧ w'.cell? ⟨g, o + i * 16 + 14, none⟩ = some (.slice xd e.dirty.length xdc) ∧ w'.cell? ⟨g2, o2 + i * 16 + 14, none⟩ = some (.slice yd e.dirty.length ydc) ∧ w'.cell? ⟨g, o + i * 16 + 15, none⟩ = some (.slice xv e.opens.length xvc) ∧ w'.cell? ⟨g2, o2 + i * 16 + 15, none⟩ = some (.slice yv e.opens.length yvc)) (first | exact SSR.out _ (Still.refl _) | exact SSR.out _ (still_drew wr) | exact SSR.out _ ((still_drew wr).trans (by assumption))) (first | (go_at_call 41; (with_reducible refine (HSE.out _ (still_drew wr)).mono ?_); rintro en w2 ⟨rfl, hs2⟩))
    have HS2 := Lib.hid (HT.out.trans ((still_drew wr).trans hs2))
    clear hs2
    go_wp2_with fail
    go_roundw
    case rel => exact ⟨i + 1, by go_num, by omega, HS2.out⟩
    case measure => simp [intOf]; omega
  · have hke : i = m := by omega
    subst hke
    have b1 : decide ((i : Int) < (i : Int)) = false := by simp
    have F := Lib.hid (show StPost w (.bool true) (.returned (.bool true)) wr from ⟨rfl, hst⟩)
    clear hst
    go_wp2_with fail
    go_ret
    exact F.out
end Go.Proofs.YtojkggppcmdepaaGreat

namespace Go.Proofs.YtojkggppcmdepaaGreat
open Go.Shelf
def ls_keysA_ren : Go.Shelf.Ren := ⟨fun | 7 => 89 | 10 => 122 | n => n, fun | 23 => 81 | 26 => 3 | 3 => 23 | 28 => 145 | 0 => 0 | 27 => 144 | 33 => 176 | 4 => 4 | n => n, fun | n => n⟩
theorem ls_keysA : Go.Proofs.SlLaysZI.n7 Tryz.prog ls_keysA_ren := {
 mixed := by kernel_rfl
 f7 := ⟨Tryz.f89.name, by decide, Tryz.func89.trans (congrArg some (by kernel_rfl))⟩
 f10 := ⟨Tryz.f122.name, by decide, Tryz.func122.trans (congrArg some (by kernel_rfl))⟩
 t0 := Tryz.underlying0
 a0 := Tryz.isAgg0
 z0 := Tryz.sizeOf0
 v0 := Tryz.zeroValue0
 t4 := Tryz.underlying4
 a4 := Tryz.isAgg4
 z4 := Tryz.sizeOf4
 v4 := Tryz.zeroValue4
 t23 := Tryz.underlying81
 a23 := Tryz.isAgg81
 z23 := Tryz.sizeOf81
 v23 := Tryz.zeroValue81
 t26 := Tryz.underlying3
 a26 := Tryz.isAgg3
 z26 := Tryz.sizeOf3
 v26 := Tryz.zeroValue3
 t27 := Tryz.underlying144
 a27 := Tryz.isAgg144
 z27 := Tryz.sizeOf144
 v27 := Tryz.zeroValue144
 t28 := Tryz.underlying145
 a28 := Tryz.isAgg145
 z28 := Tryz.sizeOf145
 v28 := Tryz.zeroValue145
 t33 := Tryz.underlying176
 a33 := Tryz.isAgg176
 z33 := Tryz.sizeOf176
 v33 := Tryz.zeroValue176 }
def ls_sortedA_ren : Go.Shelf.Ren := ⟨fun | 6 => 88 | 8 => 120 | 9 => 121 | 11 => 134 | 13 => 136 | 12 => 135 | 23 => 151 | 24 => 152 | 14 => 142 | 15 => 143 | 16 => 144 | 17 => 145 | 18 => 146 | 19 => 147 | 20 => 148 | 21 => 149 | 22 => 150 | 25 => 153 | 26 => 154 | 27 => 155 | 28 => 156 | 29 => 157 | 30 => 158 | 31 => 159 | n => n, fun | 26 => 3 | 28 => 145 | 24 => 90 | 0 => 0 | 3 => 3 | 37 => 72 | 48 => 68 | 50 => 196 | 4 => 4 | 40 => 188 | 39 => 187 | 45 => 192 | 5 => 5 | 9 => 9 | 51 => 197 | 55 => 201 | 57 => 203 | 58 => 74 | 33 => 176 | n => n, fun | n => n⟩
theorem ls_sortedA : Go.Proofs.SlLaysZI.n6 Tryz.prog ls_sortedA_ren := {
 mixed := by kernel_rfl
 f6 := ⟨Tryz.f88.name, by decide, Tryz.func88.trans (congrArg some (by kernel_rfl))⟩
 f8 := ⟨Tryz.f120.name, by decide, Tryz.func120.trans (congrArg some (by kernel_rfl))⟩
 f11 := ⟨Tryz.f134.name, by decide, Tryz.func134.trans (congrArg some (by kernel_rfl))⟩
 t0 := Tryz.underlying0
 a0 := Tryz.isAgg0
 z0 := Tryz.sizeOf0
 v0 := Tryz.zeroValue0
 t24 := Tryz.underlying90
 a24 := Tryz.isAgg90
 z24 := Tryz.sizeOf90
 v24 := Tryz.zeroValue90
 t26 := Tryz.underlying3
 a26 := Tryz.isAgg3
 z26 := Tryz.sizeOf3
 v26 := Tryz.zeroValue3
 t28 := Tryz.underlying145
 a28 := Tryz.isAgg145
 z28 := Tryz.sizeOf145
 v28 := Tryz.zeroValue145
 i26 := by kernel_rfl }
def ls_sortA_ren : Go.Shelf.Ren := ⟨fun | 5 => 121 | 8 => 136 | 7 => 135 | 19 => 151 | 20 => 152 | 10 => 142 | 11 => 143 | 12 => 144 | 13 => 145 | 14 => 146 | 15 => 147 | 16 => 148 | 17 => 149 | 18 => 150 | 30 => 153 | 31 => 154 | 32 => 155 | 33 => 156 | 34 => 157 | 35 => 158 | 40 => 159 | n => n, fun | 23 => 90 | 25 => 3 | 3 => 3 | 32 => 72 | 22 => 90 | 0 => 0 | 44 => 68 | 46 => 196 | 4 => 4 | 36 => 188 | 35 => 187 | 41 => 192 | 5 => 5 | 9 => 9 | 53 => 197 | 57 => 201 | 63 => 203 | 64 => 74 | n => n, fun | n => n⟩
theorem ls_sortA : Go.Proofs.SlLaysM.n5 Tryz.prog ls_sortA_ren := {
 mixed := by kernel_rfl
 f5 := ⟨Tryz.f121.name, by decide, Tryz.func121.trans (congrArg some (by kernel_rfl))⟩
 f7 := ⟨Tryz.f135.name, by decide, Tryz.func135.trans (congrArg some (by kernel_rfl))⟩
 f8 := Tryz.func136.trans (congrArg some (by kernel_rfl))
 f10 := ⟨Tryz.f142.name, by decide, Tryz.func142.trans (congrArg some (by kernel_rfl))⟩
 f11 := ⟨Tryz.f143.name, by decide, Tryz.func143.trans (congrArg some (by kernel_rfl))⟩
 f12 := ⟨Tryz.f144.name, by decide, Tryz.func144.trans (congrArg some (by kernel_rfl))⟩
 f13 := ⟨Tryz.f145.name, by decide, Tryz.func145.trans (congrArg some (by kernel_rfl))⟩
 f14 := ⟨Tryz.f146.name, by decide, Tryz.func146.trans (congrArg some (by kernel_rfl))⟩
 f15 := ⟨Tryz.f147.name, by decide, Tryz.func147.trans (congrArg some (by kernel_rfl))⟩
 f16 := ⟨Tryz.f148.name, by decide, Tryz.func148.trans (congrArg some (by kernel_rfl))⟩
 f17 := ⟨Tryz.f149.name, by decide, Tryz.func149.trans (congrArg some (by kernel_rfl))⟩
 f18 := ⟨Tryz.f150.name, by decide, Tryz.func150.trans (congrArg some (by kernel_rfl))⟩
 f19 := Tryz.func151.trans (congrArg some (by kernel_rfl))
 f20 := Tryz.func152.trans (congrArg some (by kernel_rfl))
 f30 := ⟨Tryz.f153.name, by decide, Tryz.func153.trans (congrArg some (by kernel_rfl))⟩
 f31 := Tryz.func154.trans (congrArg some (by kernel_rfl))
 f32 := Tryz.func155.trans (congrArg some (by kernel_rfl))
 f33 := ⟨Tryz.f156.name, by decide, Tryz.func156.trans (congrArg some (by kernel_rfl))⟩
 f34 := ⟨Tryz.f157.name, by decide, Tryz.func157.trans (congrArg some (by kernel_rfl))⟩
 f35 := ⟨Tryz.f158.name, by decide, Tryz.func158.trans (congrArg some (by kernel_rfl))⟩
 f40 := ⟨Tryz.f159.name, by decide, Tryz.func159.trans (congrArg some (by kernel_rfl))⟩
 t0 := Tryz.underlying0
 a0 := Tryz.isAgg0
 z0 := Tryz.sizeOf0
 v0 := Tryz.zeroValue0
 t3 := Tryz.underlying3
 a3 := Tryz.isAgg3
 z3 := Tryz.sizeOf3
 v3 := Tryz.zeroValue3
 t4 := Tryz.underlying4
 a4 := Tryz.isAgg4
 z4 := Tryz.sizeOf4
 v4 := Tryz.zeroValue4
 t5 := Tryz.underlying5
 a5 := Tryz.isAgg5
 z5 := Tryz.sizeOf5
 v5 := Tryz.zeroValue5
 t9 := Tryz.underlying9
 a9 := Tryz.isAgg9
 z9 := Tryz.sizeOf9
 v9 := Tryz.zeroValue9
 t22 := Tryz.underlying90
 a22 := Tryz.isAgg90
 z22 := Tryz.sizeOf90
 v22 := Tryz.zeroValue90
 t23 := Tryz.underlying90
 a23 := Tryz.isAgg90
 z23 := Tryz.sizeOf90
 v23 := Tryz.zeroValue90
 t25 := Tryz.underlying3
 a25 := Tryz.isAgg3
 z25 := Tryz.sizeOf3
 v25 := Tryz.zeroValue3
 t32 := Tryz.underlying72
 a32 := Tryz.isAgg72
 z32 := Tryz.sizeOf72
 v32 := Tryz.zeroValue72
 t35 := Tryz.underlying187
 a35 := Tryz.isAgg187
 z35 := Tryz.sizeOf187
 v35 := Tryz.zeroValue187
 t36 := Tryz.underlying188
 a36 := Tryz.isAgg188
 z36 := Tryz.sizeOf188
 v36 := Tryz.zeroValue188
 t41 := Tryz.underlying192
 a41 := Tryz.isAgg192
 z41 := Tryz.sizeOf192
 v41 := Tryz.zeroValue192
 t44 := Tryz.underlying68
 a44 := Tryz.isAgg68
 z44 := Tryz.sizeOf68
 v44 := Tryz.zeroValue68
 t46 := Tryz.underlying196
 a46 := Tryz.isAgg196
 z46 := Tryz.sizeOf196
 v46 := Tryz.zeroValue196
 t53 := Tryz.underlying197
 a53 := Tryz.isAgg197
 z53 := Tryz.sizeOf197
 v53 := Tryz.zeroValue197
 t57 := Tryz.underlying201
 a57 := Tryz.isAgg201
 z57 := Tryz.sizeOf201
 v57 := Tryz.zeroValue201
 t63 := Tryz.underlying203
 a63 := Tryz.isAgg203
 z63 := Tryz.sizeOf203
 v63 := Tryz.zeroValue203
 t64 := Tryz.underlying74
 a64 := Tryz.isAgg74
 z64 := Tryz.sizeOf74
 v64 := Tryz.zeroValue74 }
end Go.Proofs.YtojkggppcmdepaaGreat

namespace Go.Wh
open Go.MapKept Go.RowKit Go.Maps
open Go.WideElems (Fit rd rg rd_mk rg_of)

theorem nodup_below : ∀ (n : Nat) (l : List Int), l.Nodup → (∀ x ∈ l, 0 ≤ x ∧ x < n) → l.length ≤ n
 | 0, [], _, _ => Nat.le_refl _
 | 0, x :: l, _, h => by have := h x (by simp); omega
 | n + 1, l, hnd, h => by
  by_cases hm : (n : Int) ∈ l
  · have h1 := List.length_erase_of_mem hm
    have h2 := nodup_below n (l.erase (n : Int)) (hnd.erase _) fun x hx => by
     have h3 := (List.Nodup.mem_erase_iff hnd).1 hx
     have h4 := h x h3.2
     have h5 := h3.1
     omega
    have := List.length_pos_of_mem hm
    omega
  · have := nodup_below n l hnd fun x hx => by
     have h4 := h x hx
     have : x ≠ (n : Int) := fun e => hm (e ▸ hx)
     omega
    omega
def looseL (q : Nat → Bool) (n : Nat) : List Nat := (List.range n).filter q
theorem looseL_mem {q : Nat → Bool} {n i : Nat} : i ∈ looseL q n ↔ i < n ∧ q i = true := by
 unfold looseL
 rw [List.mem_filter, List.mem_range]
theorem looseL_sorted (q : Nat → Bool) (n : Nat) : (looseL q n).Pairwise (· < ·) := (List.pairwise_lt_range (n := n)).filter _
theorem looseL_nodup (q : Nat → Bool) (n : Nat) : (looseL q n).Nodup := (looseL_sorted q n).imp fun h => Nat.ne_of_lt h
theorem sort_loose {q : Nat → Bool} {n : Nat} {ss : List Int} (hnd : ss.Nodup) (hm : ∀ x, x ∈ ss ↔ ∃ i : Nat, i < n ∧ q i = true ∧ x = i) : ss.mergeSort (fun x y => decide (x ≤ y)) = (looseL q n).map fun i : Nat => (i : Int) := by
 have tr : ∀ a b c : Int, leI a b = true → leI b c = true → leI a c = true := fun a b c h1 h2 => by simp only [leI, decide_eq_true_eq] at *; exact Int.le_trans h1 h2
 have tot : ∀ a b : Int, (leI a b || leI b a) = true := fun a b => by simp only [leI, Bool.or_eq_true, decide_eq_true_eq]; exact Int.le_total a b
 have hnd2 : ((looseL q n).map fun i : Nat => (i : Int)).Nodup := List.pairwise_map.2 ((looseL_nodup q n).imp fun {a b} h e => h (by have e' : (a : Int) = (b : Int) := e; omega))
 have hp : ss.Perm ((looseL q n).map fun i : Nat => (i : Int)) := (List.perm_ext_iff_of_nodup hnd hnd2).2 fun x => by
  rw [hm x, List.mem_map]
  constructor
  · rintro ⟨i, h1, h2, rfl⟩
    exact ⟨i, looseL_mem.2 ⟨h1, h2⟩, rfl⟩
  · rintro ⟨i, h1, rfl⟩
    exact ⟨i, (looseL_mem.1 h1).1, (looseL_mem.1 h1).2, rfl⟩
 refine List.Perm.eq_of_pairwise (le := fun a b => leI a b = true) (fun a b _ _ h1 h2 => ?_) (List.pairwise_mergeSort tr tot ss) (List.pairwise_map.2 ((looseL_sorted q n).imp fun {a b} h => ?_)) ((List.mergeSort_perm ss leI).trans hp)
 · simp only [leI, decide_eq_true_eq] at h1 h2
   exact Int.le_antisymm h1 h2
 · simp only [leI, decide_eq_true_eq]
   omega
def anyV (H : Type) : Value → Option (DataW H × List MemPlace) := fun _ => some (.lit (.bool true), [])
theorem kmap_owns {P : Program} {k : TypeId} (hk : P.underlying k = some (.int .i64)) {w : World} {b n : Nat} {V : Int → Option Value} (h : kmap w P k encZ b V) (hn : n ≤ 100000) (hr : ∀ x v, V x = some v → 0 ≤ x ∧ x < n) :
 ∃ D : DataW Unit, w.ownsMap P k (anyV Unit) b n D ∧ Maps.size D ≤ n ∧ ∀ ss : List Int, ss.Perm (intKeys D) → ss.Nodup ∧ ∀ x, x ∈ ss ↔ (V x).isSome = true := by
 obtain ⟨es, clock, hb, hst, hkey, hE, hV⟩ := h
 have hint : ∀ x ∈ es.toList, ∃ a : Int, x.key = encZ a ∧ rd P k (anyV Unit) x = some (.int .i64 a, .lit (.bool true)) := fun x hx => by
  obtain ⟨l, hl⟩ := hkey x hx
  obtain ⟨a, ha, hla, -⟩ := Maps.keyOf_i64 hk hl
  refine ⟨a, ha, ?_⟩
  unfold rd
  rw [hl, hla]
  rfl
 have hlen : es.size ≤ n := by
  have h1 : (es.toList.map fun x => intOf (rg P k (anyV Unit) x).1).length ≤ n := by
   refine nodup_below n _ ?_ fun z hz => ?_
   · refine List.pairwise_map.2 ((List.pairwise_map.1 hst.2.2).imp_of_mem fun {x y} hx hy hne e => hne ?_)
     obtain ⟨a, ha, hra⟩ := hint x hx
     obtain ⟨c, hc, hrc⟩ := hint y hy
     rw [rg_of hra, rg_of hrc] at e
     rw [ha, hc]
     exact congrArg encZ e
   · obtain ⟨x, hx, rfl⟩ := List.mem_map.1 hz
     obtain ⟨a, ha, hra⟩ := hint x hx
     rw [rg_of hra]
     exact hr a x.val ((hV a x.val).2 ⟨x, hx, ha, rfl⟩)
  rw [List.length_map, Array.length_toList] at h1
  exact h1
 have hfit : Fit P k (anyV Unit) es clock := ⟨by simp only [maxLen]; omega, hst, fun x hx => by
  obtain ⟨a, -, hra⟩ := hint x hx
  exact ⟨_, hra⟩⟩
 have hown : w.ownsMap P k (anyV Unit) b n (.map ((es.toList.map (rg P k (anyV Unit))).foldr DataW.insert [])) := ⟨es, clock, hb, hfit, hlen, rfl⟩
 refine ⟨_, hown, ?_, fun ss hp => ?_⟩
 · show ((es.toList.map (rg P k (anyV Unit))).foldr DataW.insert []).length ≤ n
   rw [(Go.WideShapes.sorted_perm _).length_eq, List.length_map, Array.length_toList]
   exact hlen
 · obtain ⟨es', he', hpw, -⟩ := hown.entries (int_keyed hk)
   injection he' with he'
   have hmem : ∀ x : Int, x ∈ intKeys (DataW.map ((es.toList.map (rg P k (anyV Unit))).foldr DataW.insert [])) ↔ (V x).isSome = true := fun x => by
    show x ∈ ((es.toList.map (rg P k (anyV Unit))).foldr DataW.insert []).map (fun p => intOf p.1) ↔ _
    rw [List.mem_map]
    constructor
    · rintro ⟨p, hp, rfl⟩
      obtain ⟨y, hy, rfl⟩ := List.mem_map.1 (mem_sorted.1 hp)
      obtain ⟨a, ha, hra⟩ := hint y hy
      rw [rg_of hra]
      show (V a).isSome = true
      rw [(hV a y.val).2 ⟨y, hy, ha, rfl⟩]
      rfl
    · intro hx
      obtain ⟨v, hv⟩ := Option.isSome_iff_exists.1 hx
      obtain ⟨y, hy, hyk, -⟩ := (hV x v).1 hv
      obtain ⟨a, ha, hra⟩ := hint y hy
      refine ⟨rg P k (anyV Unit) y, mem_sorted.2 (List.mem_map.2 ⟨y, hy, rfl⟩), ?_⟩
      rw [rg_of hra]
      exact encZ_inj (ha.symm.trans hyk)
   have hnd : (intKeys (DataW.map ((es.toList.map (rg P k (anyV Unit))).foldr DataW.insert []))).Nodup := by
    show (((es.toList.map (rg P k (anyV Unit))).foldr DataW.insert []).map (fun p => intOf p.1)).Nodup
    rw [he']
    refine List.pairwise_map.2 (hpw.imp_of_mem fun {p q} hp hq hne e => hne ?_)
    rw [← he'] at hp hq
    obtain ⟨y, hy, rfl⟩ := List.mem_map.1 (mem_sorted.1 hp)
    obtain ⟨z, hz, rfl⟩ := List.mem_map.1 (mem_sorted.1 hq)
    obtain ⟨a, ha, hra⟩ := hint y hy
    obtain ⟨c, hc, hrc⟩ := hint z hz
    rw [rg_of hra, rg_of hrc] at e ⊢
    have e' : a = c := e
    rw [e']
   exact ⟨hp.nodup_iff.2 hnd, fun x => (hp.mem_iff).trans (hmem x)⟩
end Go.Wh
