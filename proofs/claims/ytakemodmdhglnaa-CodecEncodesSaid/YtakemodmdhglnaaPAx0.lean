/- Functions of the program, in plain Lean, and their walks (printed; half the indent). Conditions: none. -/
-- PRINTED by print.py (a twelfth state) out of the translation. Not trusted: Lean checks it.
import Derived.Test.YtakemodmdhglnaaV
import Derived.Test.YtakemodmdhglnaaProg
import Derived.Below
import Derived.Deep.Draws
import Derived.Deep.AppendLies
import Derived.Maps.AppendAt
import Derived.OwnWalk
import Derived.Laws.BytesArg
import Derived.Laws.MakeOwn
import Derived.Laws.OwnMore
import Derived.Deep.OwnRows
import Derived.Tactics
import Derived.Lib.ConvBytes
import Derived.Laws.Slices
import Derived.WalkKit
import Derived.KernelRfl
import Derived.RowKit3
import Derived.Deep.LoopGhost
import Derived.Deep.QuietTactic
import Derived.BigQuiet
import Derived.WideLaws
import Derived.Deep.DeepCutAuto
import Derived.Deep.CutBlock
import Derived.Deep.RegionHeld3
import Derived.Laws.Rows
import Derived.Lib.AppendStr
import Derived.ArgAppend
import Derived.Laws.IdiomCopy
import Derived.OrdersHeld
import Derived.Laws.BitsLemmas
import Derived.RowKit
import Derived.WalkMore
import Derived.RegionTactic
import Derived.Lib.AppendZerosOnto
import Derived.Lib.Walk
import Derived.Lib.SliceRun
namespace Go.Proofs.Ytakemodmdhglnaa.PA
open Go.RowKit Go.Proofs.YtakemodmdhglnaaW.PrintWords Go.Proofs.YtakemodmdhglnaaW.PrintLast Go.Proofs.YtakemodmdhglnaaW.PrintMore
attribute [local go_sem] zqbb zqaz zqbd zqbe zqax zqay zqba zqbc   -- for this text's walks alone
set_option linter.unusedVariables false
set_option linter.unusedSimpArgs false

/-- A slice's length, spelled otherwise. -/
theorem callsLen {P : Program} {f : Nat} {w : World} {K : Ending → World → Prop} {A : Option Addr} {n m c : Nat} (h : m = n) (hc : Calls P f #[.slice A n c] w K) : Calls P f #[.slice A m c] w K := by
 subst h
 exact hc
/-- 'make([]T, 0, n)': a row of no element yet. -/
theorem R_make0 {P : Program} {ops : Array Oper} {rest : List Oper} {o : Oper} {a : Act} {Q : Exit → Act → World → Prop} {α : Type}
  (d : Kd α) {w0 W : World} (base e : Nat) (hgd : o.guard = none) {N : Tmp} (_hd : o.dst = some N) (t : TypeId) (x y : Operand) (ho : o.op = .makeSlice t x y) (n : Int) (hx : a.eval x = .int .i64 0) (hy : a.eval y = .int .i64 n)
  (ht : P.underlying t = some (.slice e)) (z : Value) (bytes : Nat) (hinfo : (P.info? e).map (fun i => (i.zero, i.size, i.bytes)) = some (some z, d.sz, bytes)) (_hz : z.cells.size = d.sz) (_hs0 : 0 < d.sz) (hb0 : 0 < bytes)
  (z0 : α) {ok okp : Nat → Prop} (_hzero : d.M W base okp z0 z.cells.toList) (_hok : ∀ k, okp k → ok k) (hfresh : ok W.heap.size) (h0 : 0 ≤ n) (hl : n.toNat * bytes ≤ 281474976710656) (HB : Below base w0 W) (hbase : base ≤ W.heap.size)
  (h : ∀ v1 w1, d.R e w1 base ok v1 [] → Below base w0 w1 → W.grownBy w1 none → (∃ b, v1.ownBlock = some b ∧ W.heap.size ≤ b) → wpList P ops Q rest (a.put o.dst v1) w1) : wpList P ops Q (o :: rest) a W := by
 obtain ⟨m, rfl⟩ := Int.eq_ofNat_of_zero_le h0
 simp only [Int.toNat_natCast] at hl
 obtain ⟨i0, hi, hzz⟩ := Option.map_eq_some_iff.1 hinfo
 simp only [Prod.mk.injEq] at hzz
 obtain ⟨hz0, hz1, hz2⟩ := hzz
 have hm : m ≤ 281474976710656 := Nat.le_trans (Nat.le_mul_of_pos_right _ hb0) hl
 obtain ⟨w1, hr, hown, hg⟩ := run_make_own (P := P) (w := W) base t e i0 z d.sz ht hi hz0 hz1 .i64 .i64 m (by rw [hz2, Nat.mul_comm]; exact hl) (by unfold maxLen; omega) hbase
 refine Kd.event_run hgd (by simp [execOp, ho, hx, hy, hr]; rfl) (h _ _ ⟨fun k hk => ?_, [], ?_, Reps.none _ _⟩ (HB.grown hg hbase (by simp)) hg ⟨W.heap.size, by simp [Value.ownBlock], Nat.le_refl _⟩)
 ·
  have : W.heap.size = k := by simpa [Value.ownBlock] using hk
  subst this
  exact hfresh
 ·
  simpa using hown
/-- An array's element, at an index that is told as it runs. -/
def atB (bs : List Bool) (j : Int) : Bool := bs.getD j.toNat false
theorem arr_bool {W : World} {g : Nat} {t : TypeId} {cs : Array Value} (o : Nat) (bs : List Bool) (h : W.heap[g]? = some (.cells cs t (0, 0))) (hc : (cs.toList.drop o).take bs.length = bs.map Value.bool) (j : Int) (p : 0 ≤ j) (q : j < (bs.length : Int)) :
  W.cell? ⟨g, o + j.toNat, none⟩ = some (.bool (atB bs j)) := by
 rw [zqab h, ← Array.getElem?_toList]
 have hj : j.toNat < bs.length := by omega
 have e : ((cs.toList.drop o).take bs.length)[j.toNat]? = cs.toList[o + j.toNat]? := by rw [List.getElem?_take, if_pos hj, List.getElem?_drop]
 rw [← e, hc]
 simp [atB, List.getD_eq_getElem?_getD, List.getElem?_eq_getElem hj]
theorem arr_int {W : World} {g : Nat} {t : TypeId} {cs : Array Value} (k : IntKind) (o : Nat) (bs : List Int) (h : W.heap[g]? = some (.cells cs t (0, 0))) (hc : (cs.toList.drop o).take bs.length = bs.map (Value.int k)) (j : Int) (p : 0 ≤ j) (q : j < (bs.length : Int)) :
  W.cell? ⟨g, o + j.toNat, none⟩ = some (.int k (rd bs j)) := by
 rw [zqab h, ← Array.getElem?_toList]
 have hj : j.toNat < bs.length := by omega
 have e : ((cs.toList.drop o).take bs.length)[j.toNat]? = cs.toList[o + j.toNat]? := by rw [List.getElem?_take, if_pos hj, List.getElem?_drop]
 rw [← e, hc]
 simp [rd, List.getD_eq_getElem?_getD, List.getElem?_eq_getElem hj]
/-- The i-th of an array's numbers, behind a store at j. -/
def pk (j i v o : Int) : Int := if j = i then v else o
theorem blk_putv {w : World} {g : Nat} {t : TypeId} {cs cs' : Array Value} (h : w.heap[g]? = some (.cells cs t (0, 0))) (i : Nat) (u : Value) (hc : cs.setIfInBounds i u = cs') : (w.setCell ⟨g, i, none⟩ u).heap[g]? = some (.cells cs' t (0, 0)) := by
 subst hc
 exact blk_set h i u
theorem pk_set_4 (k : IntKind) {a b c d : Value} {o0 o1 o2 o3 o4 o5 o6 o7 : Int} (j v : Int) (p : 0 ≤ j) (q : j < 8) :
  (#[a, b, c, d, .int k o0, .int k o1, .int k o2, .int k o3, .int k o4, .int k o5, .int k o6, .int k o7] : Array Value).setIfInBounds (4 + j.toNat) (.int k v) = #[a, b, c, d, .int k (pk j 0 v o0), .int k (pk j 1 v o1), .int k (pk j 2 v o2), .int k (pk j 3 v o3), .int k (pk j 4 v o4), .int k (pk j 5 v o5), .int k (pk j 6 v o6), .int k (pk j 7 v o7)] := by
 have h : j = 0 ∨ j = 1 ∨ j = 2 ∨ j = 3 ∨ j = 4 ∨ j = 5 ∨ j = 6 ∨ j = 7 := by omega
 rcases h with rfl | rfl | rfl | rfl | rfl | rfl | rfl | rfl <;> rfl
/-- An array's '==', item by item. -/
theorem eqi_cons {P : Program} {d : Nat} {e : TypeId} {c : Nat} {xs ys : Array Value} {i : Nat} {is : List Nat} {a b : Value} {r s : Bool} {w : World} (ha : (part e xs (i * c)).run P w = .ok a w) (hb : (part e ys (i * c)).run P w = .ok b w) (he : (Op.equalIn d e a b).run P w = .ok r w) (hr : (Op.eqItems d e c xs ys is).run P w = .ok s w) : (Op.eqItems d e c xs ys (i :: is)).run P w = .ok (r && s) w := by
 simp only [Op.eqItems, Sem.run_bind, ha, hb, he, Result.andThen_ok]
 cases r
 ·
  simp
 ·
  simpa using hr
/-- .. its last item. -/
theorem eqi_last {P : Program} {d : Nat} {e : TypeId} {c : Nat} {xs ys : Array Value} {i : Nat} {a b : Value} {r : Bool} {w : World} (ha : (part e xs (i * c)).run P w = .ok a w) (hb : (part e ys (i * c)).run P w = .ok b w) (he : (Op.equalIn d e a b).run P w = .ok r w) : (Op.eqItems d e c xs ys [i]).run P w = .ok r w := by
 have h := eqi_cons ha hb he (show (Op.eqItems d e c xs ys []).run P w = .ok true w by simp [Op.eqItems])
 rwa [Bool.and_true] at h
/-- .. and the whole. -/
theorem eqi_of {P : Program} {d : Nat} {t e : TypeId} {n c : Nat} {xs ys : Array Value} {r : Bool} {w : World} (hu : P.underlying t = some (.array n e)) (hi : (P.info? e).isSome = true) (hc : P.cellsOf e = c) (h : (Op.eqItems d e c xs ys (List.range n)).run P w = .ok r w) : (Op.equalIn (d + 1) t (.agg xs) (.agg ys)).run P w = .ok r w := by
 obtain ⟨i, hi'⟩ := Option.isSome_iff_exists.mp hi
 rw [run_equalIn_array w d xs ys hu hi', hc]
 exact h



def errW : Option Int → Value
 | none => .nilIface
 | some c => .iface 0 (.int .i64 c)
theorem errW_none : errW none = .nilIface := rfl
theorem errW_some (c : Int) : errW (some c) = .iface 0 (.int .i64 c) := rfl

theorem info3 : (Try.prog.info? 3).map (fun i => (i.zero, i.size, i.bytes)) = some (some (.int .i64 0), 1, 8) := by kernel_rfl
theorem info5 : (Try.prog.info? 5).map (fun i => (i.zero, i.size, i.bytes)) = some (some (.int .u8 0), 1, 1) := by kernel_rfl
theorem info25 : (Try.prog.info? 25).map (fun i => (i.zero, i.size, i.bytes)) = some (some (.slice none 0 0), 1, 24) := by kernel_rfl
-- the values' own types
end Go.Proofs.Ytakemodmdhglnaa.PA
