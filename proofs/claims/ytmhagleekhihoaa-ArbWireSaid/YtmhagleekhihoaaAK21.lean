import Derived.Test.YtmhagleekhihoaaAK20
namespace Go.AK
open Go Go.RowKit
theorem acond_t {t : Bool} {A B : Prop} (h : t = true) (k : A) : acond t A B := by subst h; exact k
theorem acond_f {t : Bool} {A B : Prop} (h : t = false) (k : B) : acond t A B := by subst h; exact k
theorem aget_num {k : IntKind} {L : List Int} {o i : Nat} {x : Int} {K : AV → Prop} (ho : o = i) (h : L[i]? = some x) (hk : K (.i k x)) : aget (nums k L) o K := by
  subst ho
  unfold aget
  have : (nums k L)[o]? = some (.i k x) := by simp [nums, h]
  rw [this]; exact hk
theorem aget_at {cs : List AV} {o i : Nat} {x : AV} {K : AV → Prop} (ho : o = i) (h : cs[i]? = some x) (hk : K x) : aget cs o K := by
  subst ho
  unfold aget
  rw [h]; exact hk
theorem aget_numS {φ : Nat → Sb} {k : IntKind} {L : List Int} {o i : Nat} {x : Int} {K : AV → Prop} (ho : o = i) (h : L[i]? = some x) (hk : K (.i k x)) : aget (subs φ (nums k L)) o K := by
  rw [subs_nums]; exact aget_num ho h hk
theorem plc_get {L : List Int} {n i : Nat} (hp : ∀ x ∈ L, 0 ≤ x ∧ x < (n : Int)) (h : i < L.length) : ∃ x : Nat, L[i]? = some (x : Int) ∧ x < n := by
  have := hp _ (List.getElem_mem h)
  refine ⟨L[i].toNat, ?_, by omega⟩
  rw [List.getElem?_eq_getElem h, Int.toNat_of_nonneg this.1]
theorem ADraw.to {P : Program} {n0 nt : Nat} {ops : Array Oper} {r r' : Regs} {H H' : Heap} {Q : AX → Regs → Heap → Prop} (hr : r = r') (hH : H = H') (h : ADraw P n0 nt ops r' H' Q) : ADraw P n0 nt ops r H Q := by
  subst hr; subst hH; exact h
end Go.AK
