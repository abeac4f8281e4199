/- Arrays of a fixed length among a statement's arguments, opened: their elements, each as it reads. -/
import Derived.WalkKit
import Derived.ProofKit
import Derived.OpenShut
import Derived.ChangeSlices
namespace Go.Proofs.Ytakemodmdhglnaa.Rowx
open Go.ChangeShapes Go.WideShapes Go.RowKit
/-- A slice of whole numbers, as it reads. -/
def IsRow (k : IntKind) (w : World) (a : Option Addr) (len cap : Nat) (zs : List Int) : Prop :=
  (a = none ∧ len = 0 ∧ cap = 0 ∧ zs = []) ∨
  ∃ x, a = some x ∧ len ≤ cap ∧ cap ≤ maxLen ∧ zs.length = cap ∧ (∀ i, i < zs.length → w.cell? (x.add i) = some (.int k (zs.getD i 0))) ∧ ∀ n ∈ zs, (Lit.int k n).wf = true
section
variable {H : Type} {enc : TypeId × Value → H} {P : Program} {w : World}
theorem okWide_array {n : Nat} {e t : TypeId} {r : Reach} {base : Nat} {v : Value} (ht : P.underlying t = some (.array n e)) (h : Value.okWide P w r base t v) : ∃ cs, v = .agg cs ∧ cs.size = P.cellsOf t := by
  simp only [Value.okWide, ht] at h
  obtain ⟨cs, h1, h2, _⟩ := h
  exact ⟨cs, h1, h2⟩
theorem isRow_of {t e : TypeId} {k : IntKind} {fuel : Nat} {c : Value} {x : DataW H × List MemPlace} (ht : P.underlying t = some (.slice e)) (he : P.underlying e = some (.int k)) (hc : P.cellsOf e = 1)
    (h : DataW.trod enc P w 0 (fun _ => true) true fuel t [c] = some x) : ∃ a len cap zs, c = .slice a len cap ∧ IsRow k w a len cap zs := by
  rcases open_ints ht he hc h with ⟨hcs, _⟩ | ⟨a, len, cap, zs, hcs, _, hl, hm, hz, _, hcell, hwz⟩
  · obtain rfl := List.singleton_inj.1 hcs
    exact ⟨none, 0, 0, [], rfl, .inl ⟨rfl, rfl, rfl, rfl⟩⟩
  · obtain rfl := List.singleton_inj.1 hcs
    exact ⟨some a, len, cap, zs, rfl, .inr ⟨a, rfl, hl, hm, by simpa using hz, hcell, hwz⟩⟩
/-- Each element by itself. -/
theorem open_arr {n : Nat} {e t : TypeId} {r : Reach} {base b0 : Nat} {spare : Nat → Bool} {held : Bool} {v : Value} {d : DataW H} {p : List MemPlace} (ht : P.underlying t = some (.array n e)) (he : P.cellsOf e = 1) (hC : P.cellsOf t = n)
    (hv : Value.okWide P w r b0 t v) (h : DataW.Trod enc P w base spare held t v d p) :
    ∃ cs : List Value, v = .agg cs.toArray ∧ cs.length = n ∧ ∀ i, i < n → ∃ m y c, cs[i]? = some c ∧ DataW.trod enc P w base spare held m e [c] = some y := by
  obtain ⟨cs, rfl, hsz⟩ := okWide_array ht hv
  obtain ⟨fuel, hf⟩ := h
  obtain ⟨xs, m, _, _, _, hl, hel⟩ := DataW.trod_array ht hf
  refine ⟨cs.toList, by simp, by simp [hsz, hC], fun i hi => ?_⟩
  have h1 := hel i hi
  rw [he] at h1
  have hi' : i < cs.size := by omega
  have e1 : (((Value.agg cs).cells.toList.drop (i * 1)).take 1) = [cs[i]] := by
    simp only [Value.cells, Nat.mul_one]
    rw [List.drop_eq_getElem_cons (by simpa using hi')]
    simp
  rw [e1] at h1
  exact ⟨m, _, cs[i], by simp [hi'], h1.trans (List.getElem?_eq_getElem (by omega))⟩
theorem cons_of {α : Type} {cs : List α} {n : Nat} (h : cs.length = n + 1) : ∃ a t, cs = a :: t ∧ t.length = n := by
  cases cs with
  | nil => simp at h
  | cons a t => exact ⟨a, t, rfl, by simpa using h⟩
theorem two_of {α : Type} {cs : List α} (h : cs.length = 2) : ∃ a b, cs = [a, b] := by
  match cs, h with
  | [a, b], _ => exact ⟨a, b, rfl⟩
/-- An array of two slices of whole numbers. -/
theorem open_two_rows {t e e' : TypeId} {k : IntKind} {r : Reach} {b0 : Nat} {v : Value} {d : DataW H} {p : List MemPlace} (ht : P.underlying t = some (.array 2 e)) (he : P.underlying e = some (.slice e')) (he' : P.underlying e' = some (.int k))
    (hc : P.cellsOf e = 1) (hc' : P.cellsOf e' = 1) (hC : P.cellsOf t = 2) (hv : Value.okWide P w r b0 t v) (h : DataW.Trod enc P w 0 (fun _ => true) true t v d p) :
    ∃ a0 len0 cap0 z0 a1 len1 cap1 z1, v = .agg #[.slice a0 len0 cap0, .slice a1 len1 cap1] ∧ IsRow k w a0 len0 cap0 z0 ∧ IsRow k w a1 len1 cap1 z1 := by
  obtain ⟨cs, rfl, hl, hel⟩ := open_arr ht hc hC hv h
  obtain ⟨c0, c1, rfl⟩ := two_of hl
  obtain ⟨m0, y0, c, e0, h0⟩ := hel 0 (by omega)
  obtain ⟨m1, y1, c', e1, h1⟩ := hel 1 (by omega)
  simp at e0 e1
  subst e0 e1
  obtain ⟨a0, l0, p0, z0, rfl, r0⟩ := isRow_of he he' hc' h0
  obtain ⟨a1, l1, p1, z1, rfl, r1⟩ := isRow_of he he' hc' h1
  exact ⟨a0, l0, p0, z0, a1, l1, p1, z1, rfl, r0, r1⟩
/-- An array of two whole numbers. -/
theorem open_two_ints {t e : TypeId} {k : IntKind} {r : Reach} {b0 : Nat} {v : Value} {d : DataW H} {p : List MemPlace} (ht : P.underlying t = some (.array 2 e)) (he : P.underlying e = some (.int k))
    (hc : P.cellsOf e = 1) (hC : P.cellsOf t = 2) (hv : Value.okWide P w r b0 t v) (h : DataW.Trod enc P w 0 (fun _ => true) true t v d p) :
    ∃ x0 x1, v = .agg #[.int k x0, .int k x1] ∧ (Lit.int k x0).wf = true ∧ (Lit.int k x1).wf = true := by
  obtain ⟨cs, rfl, hl, hel⟩ := open_arr ht hc hC hv h
  obtain ⟨c0, c1, rfl⟩ := two_of hl
  obtain ⟨m0, y0, c, e0, h0⟩ := hel 0 (by omega)
  obtain ⟨m1, y1, c', e1, h1⟩ := hel 1 (by omega)
  simp at e0 e1
  subst e0 e1
  obtain ⟨x0, g0, _, w0⟩ := DataW.trod_int he h0
  obtain ⟨x1, g1, _, w1⟩ := DataW.trod_int he h1
  simp at g0 g1
  subst g0 g1
  exact ⟨x0, x1, rfl, w0, w1⟩
/-- An array of bools. -/
theorem open_bools {n : Nat} {t e : TypeId} {r : Reach} {b0 : Nat} {v : Value} {d : DataW H} {p : List MemPlace} (ht : P.underlying t = some (.array n e)) (he : P.underlying e = some .bool)
    (hc : P.cellsOf e = 1) (hC : P.cellsOf t = n) (hv : Value.okWide P w r b0 t v) (h : DataW.Trod enc P w 0 (fun _ => true) true t v d p) :
    ∃ bs : List Bool, bs.length = n ∧ v = .agg (bs.map Value.bool).toArray := by
  obtain ⟨cs, rfl, hl, hel⟩ := open_arr ht hc hC hv h
  have hb : ∀ i, i < n → ∃ b, cs[i]? = some (Value.bool b) := by
    intro i hi
    obtain ⟨m, y, c, e0, h0⟩ := hel i hi
    obtain ⟨b, g, _⟩ := DataW.trod_bool he h0
    simp at g
    subst g
    exact ⟨b, e0⟩
  refine ⟨cs.map fun c => match c with | .bool b => b | _ => false, by simp [hl], ?_⟩
  congr 1
  rw [List.map_map]
  apply congrArg
  refine (List.ext_getElem? fun i => ?_).symm
  rw [List.getElem?_map]
  by_cases hi : i < n
  · obtain ⟨b, g⟩ := hb i hi
    rw [g]
    rfl
  · rw [List.getElem?_eq_none (by omega)]
    rfl
theorem part1 {cs : List Value} {off n : Nat} {c : Value} (hn : n = 1) (hc : cs[off]? = some c) : (cs.drop off).take n = [c] := by
  subst hn
  obtain ⟨h, rfl⟩ := List.getElem?_eq_some_iff.mp hc
  rw [List.drop_eq_getElem_cons h, List.take_succ_cons, List.take_zero]
/-- A frame: a number, two bools, a number, and an array of eight bytes. -/
theorem open_frame {t te : TypeId} {fs : Array Field} {b0 : Nat} {r : Reach} {v : Value} {d : DataW H} {p : List MemPlace} (hu : P.underlying t = some (.struct fs)) (hC : P.cellsOf t = 12)
    (h0 : (fs[0]?).map (fun f => (P.underlying f.type, f.offset, P.cellsOf f.type)) = some (some (.int .i64), 0, 1)) (h1 : (fs[1]?).map (fun f => (P.underlying f.type, f.offset, P.cellsOf f.type)) = some (some .bool, 1, 1))
    (h2 : (fs[2]?).map (fun f => (P.underlying f.type, f.offset, P.cellsOf f.type)) = some (some .bool, 2, 1)) (h3 : (fs[3]?).map (fun f => (P.underlying f.type, f.offset, P.cellsOf f.type)) = some (some (.int .i64), 3, 1))
    (h4 : (fs[4]?).map (fun f => (P.underlying f.type, f.offset, P.cellsOf f.type)) = some (some (.array 8 te), 4, 8)) (he : P.underlying te = some (.int .u8)) (hce : P.cellsOf te = 1)
    (hv : Value.okWide P w r b0 t v) (h : DataW.Trod enc P w 0 (fun _ => true) true t v d p) :
    ∃ a0 a1 a2 a3 a4 a5 a6 a7 a8 a9 a10 a11, v = .agg #[.int .i64 a0, .bool a1, .bool a2, .int .i64 a3, .int .u8 a4, .int .u8 a5, .int .u8 a6, .int .u8 a7, .int .u8 a8, .int .u8 a9, .int .u8 a10, .int .u8 a11] ∧
      (Lit.int .i64 a0).wf = true ∧ (Lit.int .i64 a3).wf = true ∧ (Lit.int .u8 a4).wf = true ∧ (Lit.int .u8 a5).wf = true ∧ (Lit.int .u8 a6).wf = true ∧ (Lit.int .u8 a7).wf = true ∧ (Lit.int .u8 a8).wf = true ∧ (Lit.int .u8 a9).wf = true ∧ (Lit.int .u8 a10).wf = true ∧ (Lit.int .u8 a11).wf = true := by
  obtain ⟨cs, rfl, hsz⟩ := okWide_struct hu hv
  obtain ⟨fuel, hf⟩ := h
  obtain ⟨xs, m, _, _, _, hl, hel⟩ := DataW.trod_struct hu hf
  rw [hC] at hsz
  have hcs : cs.toList.length = 12 := by simpa using hsz
  obtain ⟨cs⟩ := cs
  simp only at hcs
  obtain ⟨c0, cs0, rfl, k0⟩ := cons_of hcs
  clear hcs
  obtain ⟨c1, cs1, rfl, k1⟩ := cons_of k0
  clear k0
  obtain ⟨c2, cs2, rfl, k2⟩ := cons_of k1
  clear k1
  obtain ⟨c3, cs3, rfl, k3⟩ := cons_of k2
  clear k2
  obtain ⟨c4, cs4, rfl, k4⟩ := cons_of k3
  clear k3
  obtain ⟨c5, cs5, rfl, k5⟩ := cons_of k4
  clear k4
  obtain ⟨c6, cs6, rfl, k6⟩ := cons_of k5
  clear k5
  obtain ⟨c7, cs7, rfl, k7⟩ := cons_of k6
  clear k6
  obtain ⟨c8, cs8, rfl, k8⟩ := cons_of k7
  clear k7
  obtain ⟨c9, cs9, rfl, k9⟩ := cons_of k8
  clear k8
  obtain ⟨c10, cs10, rfl, k10⟩ := cons_of k9
  clear k9
  obtain ⟨c11, cs11, rfl, k11⟩ := cons_of k10
  clear k10
  obtain rfl := List.eq_nil_of_length_eq_zero k11
  have get : ∀ (i : Nat) (q : Option TypeDesc × Nat × Nat), (fs[i]?).map (fun f => (P.underlying f.type, f.offset, P.cellsOf f.type)) = some q →
      ∃ (tt : TypeId) (x : DataW H × List MemPlace), P.underlying tt = q.1 ∧ DataW.trod enc P w 0 (fun _ => true) true m tt (([c0, c1, c2, c3, c4, c5, c6, c7, c8, c9, c10, c11].drop q.2.1).take q.2.2) = some x := by
    intro i q hq
    obtain ⟨f, hf1, hf2⟩ := Option.map_eq_some_iff.mp hq
    obtain ⟨hlt, _⟩ := Array.getElem?_eq_some_iff.mp hf1
    have hx := hel i f hf1
    rw [List.getElem?_eq_getElem (by omega)] at hx
    subst hf2
    exact ⟨f.type, _, rfl, hx⟩
  obtain ⟨t0, x0, u0, g0⟩ := get 0 _ h0
  obtain ⟨t1, x1, u1, g1⟩ := get 1 _ h1
  obtain ⟨t2, x2, u2, g2⟩ := get 2 _ h2
  obtain ⟨t3, x3, u3, g3⟩ := get 3 _ h3
  obtain ⟨t4, x4, u4, g4⟩ := get 4 _ h4
  obtain ⟨a0, e0, _, w0⟩ := DataW.trod_int u0 g0
  obtain ⟨a1, e1, _⟩ := DataW.trod_bool u1 g1
  obtain ⟨a2, e2, _⟩ := DataW.trod_bool u2 g2
  obtain ⟨a3, e3, _, w3⟩ := DataW.trod_int u3 g3
  obtain ⟨ys, n, _, _, _, hl4, hel4⟩ := DataW.trod_array u4 g4
  have el : ∀ i (hi : i < 8) (c : Value), [c4, c5, c6, c7, c8, c9, c10, c11][i]? = some c → ∃ a, c = .int .u8 a ∧ (Lit.int .u8 a).wf = true := by
    intro i hi c hc
    have hx := hel4 i hi
    rw [List.getElem?_eq_getElem (by omega), hce, Nat.mul_one] at hx
    have e : ((([c0, c1, c2, c3, c4, c5, c6, c7, c8, c9, c10, c11].drop 4).take 8).drop i).take 1 = [c] := part1 rfl hc
    simp only at hx
    rw [e] at hx
    obtain ⟨a, e', _, wa⟩ := DataW.trod_int he hx
    exact ⟨a, by simpa using e', wa⟩
  obtain ⟨a4, rfl, w4⟩ := el 0 (by omega) c4 rfl
  obtain ⟨a5, rfl, w5⟩ := el 1 (by omega) c5 rfl
  obtain ⟨a6, rfl, w6⟩ := el 2 (by omega) c6 rfl
  obtain ⟨a7, rfl, w7⟩ := el 3 (by omega) c7 rfl
  obtain ⟨a8, rfl, w8⟩ := el 4 (by omega) c8 rfl
  obtain ⟨a9, rfl, w9⟩ := el 5 (by omega) c9 rfl
  obtain ⟨a10, rfl, w10⟩ := el 6 (by omega) c10 rfl
  obtain ⟨a11, rfl, w11⟩ := el 7 (by omega) c11 rfl
  simp at e0 e1 e2 e3
  subst e0 e1 e2 e3
  exact ⟨a0, a1, a2, a3, a4, a5, a6, a7, a8, a9, a10, a11, rfl, w0, w3, w4, w5, w6, w7, w8, w9, w10, w11⟩
end
end Go.Proofs.Ytakemodmdhglnaa.Rowx
