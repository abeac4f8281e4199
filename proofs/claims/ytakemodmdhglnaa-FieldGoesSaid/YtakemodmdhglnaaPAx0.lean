/- Functions of the program, in plain Lean, and their walks (printed; half the indent). Conditions: none. -/
-- PRINTED by print.py (a twelfth state) out of the translation. Not trusted: Lean checks it.
import Derived.Test.YtakemodmdhglnaaV
import Derived.Test.YtakemodmdhglnaaProg
import Derived.Below
import Derived.Deep.Draws
import Derived.Deep.AppendLies
import Derived.Maps.AppendAt
import Derived.OwnWalk
import Derived.Laws.BytesArg
import Derived.Laws.MakeOwn
import Derived.Laws.OwnMore
import Derived.Deep.OwnRows
import Derived.Tactics
import Derived.Lib.ConvBytes
import Derived.Laws.Slices
import Derived.WalkKit
import Derived.KernelRfl
import Derived.RowKit3
import Derived.Deep.LoopGhost
import Derived.Deep.QuietTactic
import Derived.BigQuiet
import Derived.WideLaws
import Derived.Deep.DeepCutAuto
import Derived.Deep.CutBlock
import Derived.Deep.RegionHeld3
import Derived.Laws.Rows
import Derived.Lib.AppendStr
import Derived.ArgAppend
import Derived.Laws.IdiomCopy
import Derived.OrdersHeld
import Derived.Laws.BitsLemmas
import Derived.RowKit
import Derived.WalkMore
import Derived.RegionTactic
import Derived.Lib.AppendZerosOnto
import Derived.Lib.Walk
import Derived.Lib.SliceRun
namespace Go.Proofs.Ytakemodmdhglnaa.PA
open Go.RowKit Go.Proofs.YtakemodmdhglnaaW.PrintWords Go.Proofs.YtakemodmdhglnaaW.PrintLast Go.Proofs.YtakemodmdhglnaaW.PrintMore
attribute [local go_sem] max2_int min2_int max_two min_two max_three min_three max_four min_four   -- for this text's walks alone
set_option linter.unusedVariables false
set_option linter.unusedSimpArgs false

/-- A slice's length, spelled otherwise. -/
theorem callsLen {P : Program} {f : Nat} {w : World} {K : Ending → World → Prop} {A : Option Addr} {n m c : Nat} (h : m = n) (hc : Calls P f #[.slice A n c] w K) : Calls P f #[.slice A m c] w K := by
 subst h
 exact hc
/-- 'make([]T, 0, n)': a row of no element yet. -/
theorem R_make0 {P : Program} {ops : Array Oper} {rest : List Oper} {o : Oper} {a : Act} {Q : Exit → Act → World → Prop} {α : Type}
  (d : Kd α) {w0 W : World} (base e : Nat) (hgd : o.guard = none) {N : Tmp} (_hd : o.dst = some N) (t : TypeId) (x y : Operand) (ho : o.op = .makeSlice t x y) (n : Int) (hx : a.eval x = .int .i64 0) (hy : a.eval y = .int .i64 n)
  (ht : P.underlying t = some (.slice e)) (z : Value) (bytes : Nat) (hinfo : (P.info? e).map (fun i => (i.zero, i.size, i.bytes)) = some (some z, d.sz, bytes)) (_hz : z.cells.size = d.sz) (_hs0 : 0 < d.sz) (hb0 : 0 < bytes)
  (z0 : α) {ok okp : Nat → Prop} (_hzero : d.M W base okp z0 z.cells.toList) (_hok : ∀ k, okp k → ok k) (hfresh : ok W.heap.size) (h0 : 0 ≤ n) (hl : n.toNat * bytes ≤ 281474976710656) (HB : Below base w0 W) (hbase : base ≤ W.heap.size)
  (h : ∀ v1 w1, d.R e w1 base ok v1 [] → Below base w0 w1 → W.grownBy w1 none → (∃ b, v1.ownBlock = some b ∧ W.heap.size ≤ b) → wpList P ops Q rest (a.put o.dst v1) w1) : wpList P ops Q (o :: rest) a W := by
 obtain ⟨m, rfl⟩ := Int.eq_ofNat_of_zero_le h0
 simp only [Int.toNat_natCast] at hl
 obtain ⟨i0, hi, hzz⟩ := Option.map_eq_some_iff.1 hinfo
 simp only [Prod.mk.injEq] at hzz
 obtain ⟨hz0, hz1, hz2⟩ := hzz
 have hm : m ≤ 281474976710656 := Nat.le_trans (Nat.le_mul_of_pos_right _ hb0) hl
 obtain ⟨w1, hr, hown, hg⟩ := run_make_own (P := P) (w := W) base t e i0 z d.sz ht hi hz0 hz1 .i64 .i64 m (by rw [hz2, Nat.mul_comm]; exact hl) (by unfold maxLen; omega) hbase
 refine Kd.event_run hgd (by simp [execOp, ho, hx, hy, hr]; rfl) (h _ _ ⟨fun k hk => ?_, [], ?_, Reps.none _ _⟩ (HB.grown hg hbase (by simp)) hg ⟨W.heap.size, by simp [Value.ownBlock], Nat.le_refl _⟩)
 ·
  have : W.heap.size = k := by simpa [Value.ownBlock] using hk
  subst this
  exact hfresh
 ·
  simpa using hown
/-- An array's element, at an index that is told as it runs. -/
def atB (bs : List Bool) (j : Int) : Bool := bs.getD j.toNat false
theorem arr_bool {W : World} {g : Nat} {t : TypeId} {cs : Array Value} (o : Nat) (bs : List Bool) (h : W.heap[g]? = some (.cells cs t (0, 0))) (hc : (cs.toList.drop o).take bs.length = bs.map Value.bool) (j : Int) (p : 0 ≤ j) (q : j < (bs.length : Int)) :
  W.cell? ⟨g, o + j.toNat, none⟩ = some (.bool (atB bs j)) := by
 rw [blk_cell h, ← Array.getElem?_toList]
 have hj : j.toNat < bs.length := by omega
 have e : ((cs.toList.drop o).take bs.length)[j.toNat]? = cs.toList[o + j.toNat]? := by rw [List.getElem?_take, if_pos hj, List.getElem?_drop]
 rw [← e, hc]
 simp [atB, List.getD_eq_getElem?_getD, List.getElem?_eq_getElem hj]
theorem arr_int {W : World} {g : Nat} {t : TypeId} {cs : Array Value} (k : IntKind) (o : Nat) (bs : List Int) (h : W.heap[g]? = some (.cells cs t (0, 0))) (hc : (cs.toList.drop o).take bs.length = bs.map (Value.int k)) (j : Int) (p : 0 ≤ j) (q : j < (bs.length : Int)) :
  W.cell? ⟨g, o + j.toNat, none⟩ = some (.int k (rd bs j)) := by
 rw [blk_cell h, ← Array.getElem?_toList]
 have hj : j.toNat < bs.length := by omega
 have e : ((cs.toList.drop o).take bs.length)[j.toNat]? = cs.toList[o + j.toNat]? := by rw [List.getElem?_take, if_pos hj, List.getElem?_drop]
 rw [← e, hc]
 simp [rd, List.getD_eq_getElem?_getD, List.getElem?_eq_getElem hj]
/-- The i-th of an array's numbers, behind a store at j. -/
def pk (j i v o : Int) : Int := if j = i then v else o
theorem blk_putv {w : World} {g : Nat} {t : TypeId} {cs cs' : Array Value} (h : w.heap[g]? = some (.cells cs t (0, 0))) (i : Nat) (u : Value) (hc : cs.setIfInBounds i u = cs') : (w.setCell ⟨g, i, none⟩ u).heap[g]? = some (.cells cs' t (0, 0)) := by
 subst hc
 exact blk_set h i u
theorem pk_set_4 (k : IntKind) {a b c d : Value} {o0 o1 o2 o3 o4 o5 o6 o7 : Int} (j v : Int) (p : 0 ≤ j) (q : j < 8) :
  (#[a, b, c, d, .int k o0, .int k o1, .int k o2, .int k o3, .int k o4, .int k o5, .int k o6, .int k o7] : Array Value).setIfInBounds (4 + j.toNat) (.int k v) = #[a, b, c, d, .int k (pk j 0 v o0), .int k (pk j 1 v o1), .int k (pk j 2 v o2), .int k (pk j 3 v o3), .int k (pk j 4 v o4), .int k (pk j 5 v o5), .int k (pk j 6 v o6), .int k (pk j 7 v o7)] := by
 have h : j = 0 ∨ j = 1 ∨ j = 2 ∨ j = 3 ∨ j = 4 ∨ j = 5 ∨ j = 6 ∨ j = 7 := by omega
 rcases h with rfl | rfl | rfl | rfl | rfl | rfl | rfl | rfl <;> rfl
/-- An array's '==', item by item. -/
theorem eqi_cons {P : Program} {d : Nat} {e : TypeId} {c : Nat} {xs ys : Array Value} {i : Nat} {is : List Nat} {a b : Value} {r s : Bool} {w : World} (ha : (part e xs (i * c)).run P w = .ok a w) (hb : (part e ys (i * c)).run P w = .ok b w) (he : (Op.equalIn d e a b).run P w = .ok r w) (hr : (Op.eqItems d e c xs ys is).run P w = .ok s w) : (Op.eqItems d e c xs ys (i :: is)).run P w = .ok (r && s) w := by
 simp only [Op.eqItems, Sem.run_bind, ha, hb, he, Result.andThen_ok]
 cases r
 ·
  simp
 ·
  simpa using hr
/-- .. its last item. -/
theorem eqi_last {P : Program} {d : Nat} {e : TypeId} {c : Nat} {xs ys : Array Value} {i : Nat} {a b : Value} {r : Bool} {w : World} (ha : (part e xs (i * c)).run P w = .ok a w) (hb : (part e ys (i * c)).run P w = .ok b w) (he : (Op.equalIn d e a b).run P w = .ok r w) : (Op.eqItems d e c xs ys [i]).run P w = .ok r w := by
 have h := eqi_cons ha hb he (show (Op.eqItems d e c xs ys []).run P w = .ok true w by simp [Op.eqItems])
 rwa [Bool.and_true] at h
/-- .. and the whole. -/
theorem eqi_of {P : Program} {d : Nat} {t e : TypeId} {n c : Nat} {xs ys : Array Value} {r : Bool} {w : World} (hu : P.underlying t = some (.array n e)) (hi : (P.info? e).isSome = true) (hc : P.cellsOf e = c) (h : (Op.eqItems d e c xs ys (List.range n)).run P w = .ok r w) : (Op.equalIn (d + 1) t (.agg xs) (.agg ys)).run P w = .ok r w := by
 obtain ⟨i, hi'⟩ := Option.isSome_iff_exists.mp hi
 rw [run_equalIn_array w d xs ys hu hi', hc]
 exact h



def errW : Option Int → Value
 | none => .nilIface
 | some c => .iface 0 (.int .i64 c)
theorem errW_none : errW none = .nilIface := rfl
theorem errW_some (c : Int) : errW (some c) = .iface 0 (.int .i64 c) := rfl

theorem info3 : (Try.prog.info? 3).map (fun i => (i.zero, i.size, i.bytes)) = some (some (.int .i64 0), 1, 8) := by kernel_rfl
theorem info5 : (Try.prog.info? 5).map (fun i => (i.zero, i.size, i.bytes)) = some (some (.int .u8 0), 1, 1) := by kernel_rfl
theorem info25 : (Try.prog.info? 25).map (fun i => (i.zero, i.size, i.bytes)) = some (some (.slice none 0 0), 1, 24) := by kernel_rfl
-- the values' own types
/-! #### struct type 22 -/
structure S22 where
 f0 : Int
 f1 : Int
 f2 : Int
 f3 : Int
 f4 : Int
 f5 : Int
 f6 : Int
 f7 : Int
def z22 : S22 := ⟨(0 : Int), (0 : Int), (0 : Int), (0 : Int), (0 : Int), (0 : Int), (0 : Int), (0 : Int)⟩
def k22 : Kd S22 := Kd.iso (Kd.pair (Kd.int .u8) (Kd.pair (Kd.int .u8) (Kd.pair (Kd.int .u8) (Kd.pair (Kd.int .u8) (Kd.pair (Kd.int .u8) (Kd.pair (Kd.int .u8) (Kd.pair (Kd.int .u8) (Kd.int .u8)))))))) (fun x : S22 => (x.f0, x.f1, x.f2, x.f3, x.f4, x.f5, x.f6, x.f7))
theorem k22_open {w : World} {x : S22} {cs : List Value} (h : k22.K w x cs) : cs = [.int .u8 x.f0, .int .u8 x.f1, .int .u8 x.f2, .int .u8 x.f3, .int .u8 x.f4, .int .u8 x.f5, .int .u8 x.f6, .int .u8 x.f7] := by
 obtain ⟨_, _, rfl, rfl, ⟨_, _, rfl, rfl, ⟨_, _, rfl, rfl, ⟨_, _, rfl, rfl, ⟨_, _, rfl, rfl, ⟨_, _, rfl, rfl, ⟨_, _, rfl, rfl, rfl⟩⟩⟩⟩⟩⟩⟩ := h
 exact rfl
theorem k22_openM {w : World} {base : Nat} {ok : Nat → Prop} {x : S22} {cs : List Value} (h : k22.M w base ok x cs) : cs = [.int .u8 x.f0, .int .u8 x.f1, .int .u8 x.f2, .int .u8 x.f3, .int .u8 x.f4, .int .u8 x.f5, .int .u8 x.f6, .int .u8 x.f7] := by
 obtain ⟨_, _, rfl, rfl, ⟨_, _, rfl, rfl, ⟨_, _, rfl, rfl, ⟨_, _, rfl, rfl, ⟨_, _, rfl, rfl, ⟨_, _, rfl, rfl, ⟨_, _, rfl, rfl, rfl⟩⟩⟩⟩⟩⟩⟩ := h
 exact rfl
theorem k22_mk (w : World) (x : S22)  : k22.K w x [.int .u8 x.f0, .int .u8 x.f1, .int .u8 x.f2, .int .u8 x.f3, .int .u8 x.f4, .int .u8 x.f5, .int .u8 x.f6, .int .u8 x.f7] := ⟨[.int .u8 x.f0], [.int .u8 x.f1, .int .u8 x.f2, .int .u8 x.f3, .int .u8 x.f4, .int .u8 x.f5, .int .u8 x.f6, .int .u8 x.f7], rfl, rfl, ⟨[.int .u8 x.f1], [.int .u8 x.f2, .int .u8 x.f3, .int .u8 x.f4, .int .u8 x.f5, .int .u8 x.f6, .int .u8 x.f7], rfl, rfl, ⟨[.int .u8 x.f2], [.int .u8 x.f3, .int .u8 x.f4, .int .u8 x.f5, .int .u8 x.f6, .int .u8 x.f7], rfl, rfl, ⟨[.int .u8 x.f3], [.int .u8 x.f4, .int .u8 x.f5, .int .u8 x.f6, .int .u8 x.f7], rfl, rfl, ⟨[.int .u8 x.f4], [.int .u8 x.f5, .int .u8 x.f6, .int .u8 x.f7], rfl, rfl, ⟨[.int .u8 x.f5], [.int .u8 x.f6, .int .u8 x.f7], rfl, rfl, ⟨[.int .u8 x.f6], [.int .u8 x.f7], rfl, rfl, rfl⟩⟩⟩⟩⟩⟩⟩
theorem k22_mkM (w : World) (base : Nat) (ok : Nat → Prop) (x : S22)  : k22.M w base ok x [.int .u8 x.f0, .int .u8 x.f1, .int .u8 x.f2, .int .u8 x.f3, .int .u8 x.f4, .int .u8 x.f5, .int .u8 x.f6, .int .u8 x.f7] := ⟨[.int .u8 x.f0], [.int .u8 x.f1, .int .u8 x.f2, .int .u8 x.f3, .int .u8 x.f4, .int .u8 x.f5, .int .u8 x.f6, .int .u8 x.f7], rfl, rfl, ⟨[.int .u8 x.f1], [.int .u8 x.f2, .int .u8 x.f3, .int .u8 x.f4, .int .u8 x.f5, .int .u8 x.f6, .int .u8 x.f7], rfl, rfl, ⟨[.int .u8 x.f2], [.int .u8 x.f3, .int .u8 x.f4, .int .u8 x.f5, .int .u8 x.f6, .int .u8 x.f7], rfl, rfl, ⟨[.int .u8 x.f3], [.int .u8 x.f4, .int .u8 x.f5, .int .u8 x.f6, .int .u8 x.f7], rfl, rfl, ⟨[.int .u8 x.f4], [.int .u8 x.f5, .int .u8 x.f6, .int .u8 x.f7], rfl, rfl, ⟨[.int .u8 x.f5], [.int .u8 x.f6, .int .u8 x.f7], rfl, rfl, ⟨[.int .u8 x.f6], [.int .u8 x.f7], rfl, rfl, rfl⟩⟩⟩⟩⟩⟩⟩
theorem k22_mkF (W : World) (ok : Nat → Prop) (x : S22) : Kd.FK k22 W ok x [.int .u8 x.f0, .int .u8 x.f1, .int .u8 x.f2, .int .u8 x.f3, .int .u8 x.f4, .int .u8 x.f5, .int .u8 x.f6, .int .u8 x.f7] := fun W2 _ => k22_mk W2 x
def rd_T22 (xs : List S22) (i : Int) : S22 := xs.getD i.toNat z22
theorem at_T22 {w : World} {A : Option Addr} {n : Nat} {xs : List S22} (h : Kd.C k22 w A n xs) (i : Int) (h0 : 0 ≤ i) (h1 : i < n) : ∃ ad , A = some ad ∧ w.cell? (ad.add (i.toNat * 8)) = some (.int .u8 (rd_T22 xs i).f0) ∧ w.cell? ⟨(ad.add (i.toNat * 8)).block, (ad.add (i.toNat * 8)).off + 1, none⟩ = some (.int .u8 (rd_T22 xs i).f1) ∧ w.cell? ⟨(ad.add (i.toNat * 8)).block, (ad.add (i.toNat * 8)).off + 2, none⟩ = some (.int .u8 (rd_T22 xs i).f2) ∧ w.cell? ⟨(ad.add (i.toNat * 8)).block, (ad.add (i.toNat * 8)).off + 3, none⟩ = some (.int .u8 (rd_T22 xs i).f3) ∧ w.cell? ⟨(ad.add (i.toNat * 8)).block, (ad.add (i.toNat * 8)).off + 4, none⟩ = some (.int .u8 (rd_T22 xs i).f4) ∧ w.cell? ⟨(ad.add (i.toNat * 8)).block, (ad.add (i.toNat * 8)).off + 5, none⟩ = some (.int .u8 (rd_T22 xs i).f5) ∧ w.cell? ⟨(ad.add (i.toNat * 8)).block, (ad.add (i.toNat * 8)).off + 6, none⟩ = some (.int .u8 (rd_T22 xs i).f6) ∧ w.cell? ⟨(ad.add (i.toNat * 8)).block, (ad.add (i.toNat * 8)).off + 7, none⟩ = some (.int .u8 (rd_T22 xs i).f7) := by
 obtain ⟨ad, c, e, _, hK, hc0⟩ := Kd.C_get h z22 i h0 h1
 have hc : ∀ j u, c[j]? = some u → w.cell? (ad.add (i.toNat * 8 + j)) = some u := hc0
 obtain rfl := k22_open hK
 exact ⟨ad, e, hc 0 _ rfl, by rw [← add_field _ _ 1 (by omega)]; exact hc 1 _ rfl, by rw [← add_field _ _ 2 (by omega)]; exact hc 2 _ rfl, by rw [← add_field _ _ 3 (by omega)]; exact hc 3 _ rfl, by rw [← add_field _ _ 4 (by omega)]; exact hc 4 _ rfl, by rw [← add_field _ _ 5 (by omega)]; exact hc 5 _ rfl, by rw [← add_field _ _ 6 (by omega)]; exact hc 6 _ rfl, by rw [← add_field _ _ 7 (by omega)]; exact hc 7 _ rfl⟩

/-! #### struct type 24 -/
structure S24 where
 f0 : Int
 f1 : Bool
 f2 : Bool
 f3 : Int
 f4 : S22
def z24 : S24 := ⟨(0 : Int), false, false, (0 : Int), z22⟩
def k24 : Kd S24 := Kd.iso (Kd.pair (Kd.int .i64) (Kd.pair Kd.bool (Kd.pair Kd.bool (Kd.pair (Kd.int .i64) k22)))) (fun x : S24 => (x.f0, x.f1, x.f2, x.f3, x.f4))
theorem k24_open {w : World} {x : S24} {cs : List Value} (h : k24.K w x cs) : cs = [.int .i64 x.f0, .bool x.f1, .bool x.f2, .int .i64 x.f3, .int .u8 x.f4.f0, .int .u8 x.f4.f1, .int .u8 x.f4.f2, .int .u8 x.f4.f3, .int .u8 x.f4.f4, .int .u8 x.f4.f5, .int .u8 x.f4.f6, .int .u8 x.f4.f7] := by
 obtain ⟨_, _, rfl, rfl, ⟨_, _, rfl, rfl, ⟨_, _, rfl, rfl, ⟨_, _, rfl, rfl, s4⟩⟩⟩⟩ := h
 obtain rfl := k22_open s4
 exact rfl
theorem k24_openM {w : World} {base : Nat} {ok : Nat → Prop} {x : S24} {cs : List Value} (h : k24.M w base ok x cs) : cs = [.int .i64 x.f0, .bool x.f1, .bool x.f2, .int .i64 x.f3, .int .u8 x.f4.f0, .int .u8 x.f4.f1, .int .u8 x.f4.f2, .int .u8 x.f4.f3, .int .u8 x.f4.f4, .int .u8 x.f4.f5, .int .u8 x.f4.f6, .int .u8 x.f4.f7] := by
 obtain ⟨_, _, rfl, rfl, ⟨_, _, rfl, rfl, ⟨_, _, rfl, rfl, ⟨_, _, rfl, rfl, s4⟩⟩⟩⟩ := h
 obtain rfl := k22_openM s4
 exact rfl
theorem k24_mk (w : World) (x : S24)  : k24.K w x [.int .i64 x.f0, .bool x.f1, .bool x.f2, .int .i64 x.f3, .int .u8 x.f4.f0, .int .u8 x.f4.f1, .int .u8 x.f4.f2, .int .u8 x.f4.f3, .int .u8 x.f4.f4, .int .u8 x.f4.f5, .int .u8 x.f4.f6, .int .u8 x.f4.f7] := ⟨[.int .i64 x.f0], [.bool x.f1, .bool x.f2, .int .i64 x.f3, .int .u8 x.f4.f0, .int .u8 x.f4.f1, .int .u8 x.f4.f2, .int .u8 x.f4.f3, .int .u8 x.f4.f4, .int .u8 x.f4.f5, .int .u8 x.f4.f6, .int .u8 x.f4.f7], rfl, rfl, ⟨[.bool x.f1], [.bool x.f2, .int .i64 x.f3, .int .u8 x.f4.f0, .int .u8 x.f4.f1, .int .u8 x.f4.f2, .int .u8 x.f4.f3, .int .u8 x.f4.f4, .int .u8 x.f4.f5, .int .u8 x.f4.f6, .int .u8 x.f4.f7], rfl, rfl, ⟨[.bool x.f2], [.int .i64 x.f3, .int .u8 x.f4.f0, .int .u8 x.f4.f1, .int .u8 x.f4.f2, .int .u8 x.f4.f3, .int .u8 x.f4.f4, .int .u8 x.f4.f5, .int .u8 x.f4.f6, .int .u8 x.f4.f7], rfl, rfl, ⟨[.int .i64 x.f3], [.int .u8 x.f4.f0, .int .u8 x.f4.f1, .int .u8 x.f4.f2, .int .u8 x.f4.f3, .int .u8 x.f4.f4, .int .u8 x.f4.f5, .int .u8 x.f4.f6, .int .u8 x.f4.f7], rfl, rfl, (k22_mk w x.f4 )⟩⟩⟩⟩
theorem k24_mkM (w : World) (base : Nat) (ok : Nat → Prop) (x : S24)  : k24.M w base ok x [.int .i64 x.f0, .bool x.f1, .bool x.f2, .int .i64 x.f3, .int .u8 x.f4.f0, .int .u8 x.f4.f1, .int .u8 x.f4.f2, .int .u8 x.f4.f3, .int .u8 x.f4.f4, .int .u8 x.f4.f5, .int .u8 x.f4.f6, .int .u8 x.f4.f7] := ⟨[.int .i64 x.f0], [.bool x.f1, .bool x.f2, .int .i64 x.f3, .int .u8 x.f4.f0, .int .u8 x.f4.f1, .int .u8 x.f4.f2, .int .u8 x.f4.f3, .int .u8 x.f4.f4, .int .u8 x.f4.f5, .int .u8 x.f4.f6, .int .u8 x.f4.f7], rfl, rfl, ⟨[.bool x.f1], [.bool x.f2, .int .i64 x.f3, .int .u8 x.f4.f0, .int .u8 x.f4.f1, .int .u8 x.f4.f2, .int .u8 x.f4.f3, .int .u8 x.f4.f4, .int .u8 x.f4.f5, .int .u8 x.f4.f6, .int .u8 x.f4.f7], rfl, rfl, ⟨[.bool x.f2], [.int .i64 x.f3, .int .u8 x.f4.f0, .int .u8 x.f4.f1, .int .u8 x.f4.f2, .int .u8 x.f4.f3, .int .u8 x.f4.f4, .int .u8 x.f4.f5, .int .u8 x.f4.f6, .int .u8 x.f4.f7], rfl, rfl, ⟨[.int .i64 x.f3], [.int .u8 x.f4.f0, .int .u8 x.f4.f1, .int .u8 x.f4.f2, .int .u8 x.f4.f3, .int .u8 x.f4.f4, .int .u8 x.f4.f5, .int .u8 x.f4.f6, .int .u8 x.f4.f7], rfl, rfl, (k22_mkM w base ok x.f4 )⟩⟩⟩⟩
theorem k24_mkF (W : World) (ok : Nat → Prop) (x : S24) : Kd.FK k24 W ok x [.int .i64 x.f0, .bool x.f1, .bool x.f2, .int .i64 x.f3, .int .u8 x.f4.f0, .int .u8 x.f4.f1, .int .u8 x.f4.f2, .int .u8 x.f4.f3, .int .u8 x.f4.f4, .int .u8 x.f4.f5, .int .u8 x.f4.f6, .int .u8 x.f4.f7] := fun W2 _ => k24_mk W2 x
def rd_T24 (xs : List S24) (i : Int) : S24 := xs.getD i.toNat z24
theorem at_T24 {w : World} {A : Option Addr} {n : Nat} {xs : List S24} (h : Kd.C k24 w A n xs) (i : Int) (h0 : 0 ≤ i) (h1 : i < n) : ∃ ad , A = some ad ∧ w.cell? (ad.add (i.toNat * 12)) = some (.int .i64 (rd_T24 xs i).f0) ∧ w.cell? ⟨(ad.add (i.toNat * 12)).block, (ad.add (i.toNat * 12)).off + 1, none⟩ = some (.bool (rd_T24 xs i).f1) ∧ w.cell? ⟨(ad.add (i.toNat * 12)).block, (ad.add (i.toNat * 12)).off + 2, none⟩ = some (.bool (rd_T24 xs i).f2) ∧ w.cell? ⟨(ad.add (i.toNat * 12)).block, (ad.add (i.toNat * 12)).off + 3, none⟩ = some (.int .i64 (rd_T24 xs i).f3) ∧ w.cell? ⟨(ad.add (i.toNat * 12)).block, (ad.add (i.toNat * 12)).off + 4, none⟩ = some (.int .u8 (rd_T24 xs i).f4.f0) ∧ w.cell? ⟨(ad.add (i.toNat * 12)).block, (ad.add (i.toNat * 12)).off + 5, none⟩ = some (.int .u8 (rd_T24 xs i).f4.f1) ∧ w.cell? ⟨(ad.add (i.toNat * 12)).block, (ad.add (i.toNat * 12)).off + 6, none⟩ = some (.int .u8 (rd_T24 xs i).f4.f2) ∧ w.cell? ⟨(ad.add (i.toNat * 12)).block, (ad.add (i.toNat * 12)).off + 7, none⟩ = some (.int .u8 (rd_T24 xs i).f4.f3) ∧ w.cell? ⟨(ad.add (i.toNat * 12)).block, (ad.add (i.toNat * 12)).off + 8, none⟩ = some (.int .u8 (rd_T24 xs i).f4.f4) ∧ w.cell? ⟨(ad.add (i.toNat * 12)).block, (ad.add (i.toNat * 12)).off + 9, none⟩ = some (.int .u8 (rd_T24 xs i).f4.f5) ∧ w.cell? ⟨(ad.add (i.toNat * 12)).block, (ad.add (i.toNat * 12)).off + 10, none⟩ = some (.int .u8 (rd_T24 xs i).f4.f6) ∧ w.cell? ⟨(ad.add (i.toNat * 12)).block, (ad.add (i.toNat * 12)).off + 11, none⟩ = some (.int .u8 (rd_T24 xs i).f4.f7) := by
 obtain ⟨ad, c, e, _, hK, hc0⟩ := Kd.C_get h z24 i h0 h1
 have hc : ∀ j u, c[j]? = some u → w.cell? (ad.add (i.toNat * 12 + j)) = some u := hc0
 obtain rfl := k24_open hK
 exact ⟨ad, e, hc 0 _ rfl, by rw [← add_field _ _ 1 (by omega)]; exact hc 1 _ rfl, by rw [← add_field _ _ 2 (by omega)]; exact hc 2 _ rfl, by rw [← add_field _ _ 3 (by omega)]; exact hc 3 _ rfl, by rw [← add_field _ _ 4 (by omega)]; exact hc 4 _ rfl, by rw [← add_field _ _ 5 (by omega)]; exact hc 5 _ rfl, by rw [← add_field _ _ 6 (by omega)]; exact hc 6 _ rfl, by rw [← add_field _ _ 7 (by omega)]; exact hc 7 _ rfl, by rw [← add_field _ _ 8 (by omega)]; exact hc 8 _ rfl, by rw [← add_field _ _ 9 (by omega)]; exact hc 9 _ rfl, by rw [← add_field _ _ 10 (by omega)]; exact hc 10 _ rfl, by rw [← add_field _ _ 11 (by omega)]; exact hc 11 _ rfl⟩

def rd_L5 (xs : List (List Int)) (i : Int) : (List Int) := xs.getD i.toNat ([] : List Int)
theorem at_L5 {w : World} {A : Option Addr} {n : Nat} {xs : List (List Int)} (h : Kd.C (Kd.slice 3 (Kd.int .i64)) w A n xs) (i : Int) (h0 : 0 ≤ i) (h1 : i < n) : ∃ ad A0 c0, A = some ad ∧ w.cell? (ad.add i.toNat) = some (.slice A0 (rd_L5 xs i).length c0) ∧ (rd_L5 xs i).length ≤ c0 ∧ (Kd.int .i64).C w A0 (rd_L5 xs i).length (rd_L5 xs i) := by
 obtain ⟨ad, c, e, _, hK, hc0⟩ := Kd.C_get h ([] : List Int) i h0 h1
 have hc : ∀ j u, c[j]? = some u → w.cell? (ad.add (i.toNat * 1 + j)) = some u := hc0
 obtain ⟨A0, c0, rfl, l0, g0⟩ := hK
 exact ⟨ad, A0, c0, e, by have hq := hc 0 _ rfl; rwa [Nat.mul_one, Nat.add_zero] at hq, l0, g0⟩

/-! #### struct type 72 -/
structure S72 where
 f0 : Bool
 f1 : Bool
 f2 : Int
 f3 : Int
 f4 : Int
def z72 : S72 := ⟨false, false, (0 : Int), (0 : Int), (0 : Int)⟩
def k72 : Kd S72 := Kd.iso (Kd.pair Kd.bool (Kd.pair Kd.bool (Kd.pair (Kd.int .i64) (Kd.pair (Kd.int .i64) (Kd.int .i64))))) (fun x : S72 => (x.f0, x.f1, x.f2, x.f3, x.f4))
theorem k72_open {w : World} {x : S72} {cs : List Value} (h : k72.K w x cs) : cs = [.bool x.f0, .bool x.f1, .int .i64 x.f2, .int .i64 x.f3, .int .i64 x.f4] := by
 obtain ⟨_, _, rfl, rfl, ⟨_, _, rfl, rfl, ⟨_, _, rfl, rfl, ⟨_, _, rfl, rfl, rfl⟩⟩⟩⟩ := h
 exact rfl
theorem k72_openM {w : World} {base : Nat} {ok : Nat → Prop} {x : S72} {cs : List Value} (h : k72.M w base ok x cs) : cs = [.bool x.f0, .bool x.f1, .int .i64 x.f2, .int .i64 x.f3, .int .i64 x.f4] := by
 obtain ⟨_, _, rfl, rfl, ⟨_, _, rfl, rfl, ⟨_, _, rfl, rfl, ⟨_, _, rfl, rfl, rfl⟩⟩⟩⟩ := h
 exact rfl
theorem k72_mk (w : World) (x : S72)  : k72.K w x [.bool x.f0, .bool x.f1, .int .i64 x.f2, .int .i64 x.f3, .int .i64 x.f4] := ⟨[.bool x.f0], [.bool x.f1, .int .i64 x.f2, .int .i64 x.f3, .int .i64 x.f4], rfl, rfl, ⟨[.bool x.f1], [.int .i64 x.f2, .int .i64 x.f3, .int .i64 x.f4], rfl, rfl, ⟨[.int .i64 x.f2], [.int .i64 x.f3, .int .i64 x.f4], rfl, rfl, ⟨[.int .i64 x.f3], [.int .i64 x.f4], rfl, rfl, rfl⟩⟩⟩⟩
theorem k72_mkM (w : World) (base : Nat) (ok : Nat → Prop) (x : S72)  : k72.M w base ok x [.bool x.f0, .bool x.f1, .int .i64 x.f2, .int .i64 x.f3, .int .i64 x.f4] := ⟨[.bool x.f0], [.bool x.f1, .int .i64 x.f2, .int .i64 x.f3, .int .i64 x.f4], rfl, rfl, ⟨[.bool x.f1], [.int .i64 x.f2, .int .i64 x.f3, .int .i64 x.f4], rfl, rfl, ⟨[.int .i64 x.f2], [.int .i64 x.f3, .int .i64 x.f4], rfl, rfl, ⟨[.int .i64 x.f3], [.int .i64 x.f4], rfl, rfl, rfl⟩⟩⟩⟩
theorem k72_mkF (W : World) (ok : Nat → Prop) (x : S72) : Kd.FK k72 W ok x [.bool x.f0, .bool x.f1, .int .i64 x.f2, .int .i64 x.f3, .int .i64 x.f4] := fun W2 _ => k72_mk W2 x
def rd_T72 (xs : List S72) (i : Int) : S72 := xs.getD i.toNat z72
theorem at_T72 {w : World} {A : Option Addr} {n : Nat} {xs : List S72} (h : Kd.C k72 w A n xs) (i : Int) (h0 : 0 ≤ i) (h1 : i < n) : ∃ ad , A = some ad ∧ w.cell? (ad.add (i.toNat * 5)) = some (.bool (rd_T72 xs i).f0) ∧ w.cell? ⟨(ad.add (i.toNat * 5)).block, (ad.add (i.toNat * 5)).off + 1, none⟩ = some (.bool (rd_T72 xs i).f1) ∧ w.cell? ⟨(ad.add (i.toNat * 5)).block, (ad.add (i.toNat * 5)).off + 2, none⟩ = some (.int .i64 (rd_T72 xs i).f2) ∧ w.cell? ⟨(ad.add (i.toNat * 5)).block, (ad.add (i.toNat * 5)).off + 3, none⟩ = some (.int .i64 (rd_T72 xs i).f3) ∧ w.cell? ⟨(ad.add (i.toNat * 5)).block, (ad.add (i.toNat * 5)).off + 4, none⟩ = some (.int .i64 (rd_T72 xs i).f4) := by
 obtain ⟨ad, c, e, _, hK, hc0⟩ := Kd.C_get h z72 i h0 h1
 have hc : ∀ j u, c[j]? = some u → w.cell? (ad.add (i.toNat * 5 + j)) = some u := hc0
 obtain rfl := k72_open hK
 exact ⟨ad, e, hc 0 _ rfl, by rw [← add_field _ _ 1 (by omega)]; exact hc 1 _ rfl, by rw [← add_field _ _ 2 (by omega)]; exact hc 2 _ rfl, by rw [← add_field _ _ 3 (by omega)]; exact hc 3 _ rfl, by rw [← add_field _ _ 4 (by omega)]; exact hc 4 _ rfl⟩

end Go.Proofs.Ytakemodmdhglnaa.PA
