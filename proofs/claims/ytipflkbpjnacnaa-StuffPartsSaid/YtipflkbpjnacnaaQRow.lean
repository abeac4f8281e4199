/- Arrays of a fixed length among a statement's arguments, opened: their elements, each as it reads. -/
import Derived.WalkKit
import Derived.ProofKit
import Derived.OpenShut
import Derived.ChangeSlices
namespace Go.Proofs.Ytipflkbpjnacnaa.Rowx
open Go.ChangeShapes Go.WideShapes Go.RowKit
/-- A slice of whole numbers, as it reads. -/
def IsRow (k : IntKind) (w : World) (a : Option Addr) (len cap : Nat) (zs : List Int) : Prop :=
  (a = none ∧ len = 0 ∧ cap = 0 ∧ zs = []) ∨
  ∃ x, a = some x ∧ len ≤ cap ∧ cap ≤ maxLen ∧ zs.length = cap ∧ (∀ i, i < zs.length → w.cell? (x.add i) = some (.int k (zs.getD i 0))) ∧ ∀ n ∈ zs, (Lit.int k n).wf = true
section
variable {H : Type} {enc : TypeId × Value → H} {P : Program} {w : World}
theorem okWide_array {n : Nat} {e t : TypeId} {r : Reach} {base : Nat} {v : Value} (ht : P.underlying t = some (.array n e)) (h : Value.okWide P w r base t v) : ∃ cs, v = .agg cs ∧ cs.size = P.cellsOf t := by
  simp only [Value.okWide, ht] at h
  obtain ⟨cs, h1, h2, _⟩ := h
  exact ⟨cs, h1, h2⟩
theorem isRow_of {t e : TypeId} {k : IntKind} {fuel : Nat} {c : Value} {x : DataW H × List MemPlace} (ht : P.underlying t = some (.slice e)) (he : P.underlying e = some (.int k)) (hc : P.cellsOf e = 1)
    (h : DataW.trod enc P w 0 (fun _ => true) true fuel t [c] = some x) : ∃ a len cap zs, c = .slice a len cap ∧ IsRow k w a len cap zs := by
  rcases open_ints ht he hc h with ⟨hcs, _⟩ | ⟨a, len, cap, zs, hcs, _, hl, hm, hz, _, hcell, hwz⟩
  · obtain rfl := List.singleton_inj.1 hcs
    exact ⟨none, 0, 0, [], rfl, .inl ⟨rfl, rfl, rfl, rfl⟩⟩
  · obtain rfl := List.singleton_inj.1 hcs
    exact ⟨some a, len, cap, zs, rfl, .inr ⟨a, rfl, hl, hm, by simpa using hz, hcell, hwz⟩⟩
/-- Each element by itself. -/
theorem open_arr {n : Nat} {e t : TypeId} {r : Reach} {base b0 : Nat} {spare : Nat → Bool} {held : Bool} {v : Value} {d : DataW H} {p : List MemPlace} (ht : P.underlying t = some (.array n e)) (he : P.cellsOf e = 1) (hC : P.cellsOf t = n)
    (hv : Value.okWide P w r b0 t v) (h : DataW.Trod enc P w base spare held t v d p) :
    ∃ cs : List Value, v = .agg cs.toArray ∧ cs.length = n ∧ ∀ i, i < n → ∃ m y c, cs[i]? = some c ∧ DataW.trod enc P w base spare held m e [c] = some y := by
  obtain ⟨cs, rfl, hsz⟩ := okWide_array ht hv
  obtain ⟨fuel, hf⟩ := h
  obtain ⟨xs, m, _, _, _, hl, hel⟩ := DataW.trod_array ht hf
  refine ⟨cs.toList, by simp, by simp [hsz, hC], fun i hi => ?_⟩
  have h1 := hel i hi
  rw [he] at h1
  have hi' : i < cs.size := by omega
  have e1 : (((Value.agg cs).cells.toList.drop (i * 1)).take 1) = [cs[i]] := by
    simp only [Value.cells, Nat.mul_one]
    rw [List.drop_eq_getElem_cons (by simpa using hi')]
    simp
  rw [e1] at h1
  exact ⟨m, _, cs[i], by simp [hi'], h1.trans (List.getElem?_eq_getElem (by omega))⟩
theorem cons_of {α : Type} {cs : List α} {n : Nat} (h : cs.length = n + 1) : ∃ a t, cs = a :: t ∧ t.length = n := by
  cases cs with
  | nil => simp at h
  | cons a t => exact ⟨a, t, rfl, by simpa using h⟩
theorem two_of {α : Type} {cs : List α} (h : cs.length = 2) : ∃ a b, cs = [a, b] := by
  match cs, h with
  | [a, b], _ => exact ⟨a, b, rfl⟩
/-- An array of two slices of whole numbers. -/
theorem open_two_rows {t e e' : TypeId} {k : IntKind} {r : Reach} {b0 : Nat} {v : Value} {d : DataW H} {p : List MemPlace} (ht : P.underlying t = some (.array 2 e)) (he : P.underlying e = some (.slice e')) (he' : P.underlying e' = some (.int k))
    (hc : P.cellsOf e = 1) (hc' : P.cellsOf e' = 1) (hC : P.cellsOf t = 2) (hv : Value.okWide P w r b0 t v) (h : DataW.Trod enc P w 0 (fun _ => true) true t v d p) :
    ∃ a0 len0 cap0 z0 a1 len1 cap1 z1, v = .agg #[.slice a0 len0 cap0, .slice a1 len1 cap1] ∧ IsRow k w a0 len0 cap0 z0 ∧ IsRow k w a1 len1 cap1 z1 := by
  obtain ⟨cs, rfl, hl, hel⟩ := open_arr ht hc hC hv h
  obtain ⟨c0, c1, rfl⟩ := two_of hl
  obtain ⟨m0, y0, c, e0, h0⟩ := hel 0 (by omega)
  obtain ⟨m1, y1, c', e1, h1⟩ := hel 1 (by omega)
  simp at e0 e1
  subst e0 e1
  obtain ⟨a0, l0, p0, z0, rfl, r0⟩ := isRow_of he he' hc' h0
  obtain ⟨a1, l1, p1, z1, rfl, r1⟩ := isRow_of he he' hc' h1
  exact ⟨a0, l0, p0, z0, a1, l1, p1, z1, rfl, r0, r1⟩
/-- An array of two whole numbers. -/
theorem open_two_ints {t e : TypeId} {k : IntKind} {r : Reach} {b0 : Nat} {v : Value} {d : DataW H} {p : List MemPlace} (ht : P.underlying t = some (.array 2 e)) (he : P.underlying e = some (.int k))
    (hc : P.cellsOf e = 1) (hC : P.cellsOf t = 2) (hv : Value.okWide P w r b0 t v) (h : DataW.Trod enc P w 0 (fun _ => true) true t v d p) :
    ∃ x0 x1, v = .agg #[.int k x0, .int k x1] ∧ (Lit.int k x0).wf = true ∧ (Lit.int k x1).wf = true := by
  obtain ⟨cs, rfl, hl, hel⟩ := open_arr ht hc hC hv h
  obtain ⟨c0, c1, rfl⟩ := two_of hl
  obtain ⟨m0, y0, c, e0, h0⟩ := hel 0 (by omega)
  obtain ⟨m1, y1, c', e1, h1⟩ := hel 1 (by omega)
  simp at e0 e1
  subst e0 e1
  obtain ⟨x0, g0, _, w0⟩ := DataW.trod_int he h0
  obtain ⟨x1, g1, _, w1⟩ := DataW.trod_int he h1
  simp at g0 g1
  subst g0 g1
  exact ⟨x0, x1, rfl, w0, w1⟩
/-- An array of bools. -/
theorem open_bools {n : Nat} {t e : TypeId} {r : Reach} {b0 : Nat} {v : Value} {d : DataW H} {p : List MemPlace} (ht : P.underlying t = some (.array n e)) (he : P.underlying e = some .bool)
    (hc : P.cellsOf e = 1) (hC : P.cellsOf t = n) (hv : Value.okWide P w r b0 t v) (h : DataW.Trod enc P w 0 (fun _ => true) true t v d p) :
    ∃ bs : List Bool, bs.length = n ∧ v = .agg (bs.map Value.bool).toArray := by
  obtain ⟨cs, rfl, hl, hel⟩ := open_arr ht hc hC hv h
  have hb : ∀ i, i < n → ∃ b, cs[i]? = some (Value.bool b) := by
    intro i hi
    obtain ⟨m, y, c, e0, h0⟩ := hel i hi
    obtain ⟨b, g, _⟩ := DataW.trod_bool he h0
    simp at g
    subst g
    exact ⟨b, e0⟩
  refine ⟨cs.map fun c => match c with | .bool b => b | _ => false, by simp [hl], ?_⟩
  congr 1
  rw [List.map_map]
  apply congrArg
  refine (List.ext_getElem? fun i => ?_).symm
  rw [List.getElem?_map]
  by_cases hi : i < n
  · obtain ⟨b, g⟩ := hb i hi
    rw [g]
    rfl
  · rw [List.getElem?_eq_none (by omega)]
    rfl
end
end Go.Proofs.Ytipflkbpjnacnaa.Rowx
