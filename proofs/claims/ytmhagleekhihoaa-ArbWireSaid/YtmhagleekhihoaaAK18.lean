import Derived.Test.YtmhagleekhihoaaAK17
import Derived.OrdersHeld
namespace Go.AK
open Go Go.RowKit
set_option linter.unusedVariables false
/-! Regions of which the order is drawn. Operations that only look may be taken first, as long as nothing was done that may turn what they look at. -/
section
variable {P : Program} {ops : Array Oper} {Q : Exit → Act → World → Prop} {md : Region.Mode}
def noBrk (brk : Nat → Bool) (listed : Array Bool) : Prop := ∀ j, brk j = true → listed.getD j false = false
structure Sf (brk : Nat → Bool) (S1 S2 : World → Prop) (listed : Array Bool) (w : World) : Prop where
  one : S1 w
  two : noBrk brk listed → S2 w
variable {brk : Nat → Bool} {S1 S2 : World → Prop}
theorem Sf.add {listed : Array Bool} {w : World} (h : Sf brk S1 S2 listed w) (i : Nat) : Sf brk S1 S2 (listed.setIfInBounds i true) w :=
  ⟨h.one, fun hb => h.two fun j hj => by
    have := hb j hj
    cases hl : listed.getD j false with
    | false => rfl
    | true => rw [getD_set_true hl] at this; cases this⟩
theorem Sf.del {listed : Array Bool} {w : World} {i : Nat} (hi : brk i = false) (h : Sf brk S1 S2 (listed.setIfInBounds i true) w) : Sf brk S1 S2 listed w :=
  ⟨h.one, fun hb => h.two fun j hj => by
    have hne : i ≠ j := fun e => by subst e; rw [hi] at hj; cases hj
    rw [getD_set_ne false hne]; exact hb j hj⟩
def wpAnyB (P : Program) (md : Region.Mode) (ops : Array Oper) (Q : Exit → Act → World → Prop) (brk : Nat → Bool) (S1 S2 : World → Prop) : Nat → Array Bool → Act → World → Prop
  | 0, listed, a, w => Region.ready md ops listed = [] ∧ Q .normal a w
  | fuel + 1, listed, a, w =>
    (Region.ready md ops listed = [] → Q .normal a w) ∧
    ∀ i ∈ Region.ready md ops listed, wpOp P ops Q i (fun a' w' => Sf brk S1 S2 (listed.setIfInBounds i true) w' ∧ wpAnyB P md ops Q brk S1 S2 fuel (listed.setIfInBounds i true) a' w') a w
theorem wpAny_of_B : ∀ (fuel : Nat) (listed : Array Bool) (a : Act) (w : World), wpAnyB P md ops Q brk S1 S2 fuel listed a w → wpAny P md ops Q fuel listed a w
  | 0, _, _, _, h => h
  | fuel + 1, _, _, _, h => ⟨h.1, fun i hi => wpOp_mono (fun a' w' h' => wpAny_of_B fuel _ a' w' h'.2) (h.2 i hi)⟩
theorem wpAnyB_first {i : Nat} {oi : Oper} {v : Value} {W : List Nat} {X : World → Prop} (hi : ops[i]? = some oi) (hsel : ∀ (j : Nat) (o : Oper) cs b, ops[j]? = some o → o.op ≠ .select cs b)
    (hQ : ∀ c a w, Q (.panic c) (a.put oi.dst v) w → Q (.panic c) a w)
    (hW : ∀ j ∈ W, ∃ oj, ops[j]? = some oj ∧ ∃ e ∈ oj.after, Region.binds md e = true ∧ (e.on = i ∨ e.on ∈ W)) (hb : brk i = false)
    (hX : ∀ listed' w', (∀ j ∈ W, listed'.getD j false = false) → Sf brk S1 S2 listed' w' → X w') :
    ∀ (fuel : Nat) (listed : Array Bool) (a : Act) (w : World),
      (∀ j oj, ops[j]? = some oj → j ≠ i → listed.getD j true = false → (∀ e ∈ oj.after, Region.binds md e = true → e.on ≠ i) → oi.apart ops oj = true) →
      i ∈ Region.ready md ops listed → (∀ j ∈ W, listed.getD j false = false) → YieldsIf P ops X oi v a → Sf brk S1 S2 listed w →
      wpAnyB P md ops Q brk S1 S2 fuel (listed.setIfInBounds i true) (a.put oi.dst v) w → wpAnyB P md ops Q brk S1 S2 (fuel + 1) listed a w := by
  intro fuel
  induction fuel with
  | zero =>
    intro listed a w _ hr hWl hy hS H
    refine ⟨fun h => (by rw [h] at hr; cases hr), fun j hj => ?_⟩
    by_cases hji : j = i
    · subst hji; exact hy.wpOp hi (hX _ _ hWl hS) ⟨hS.add _, H⟩
    · have := ready_mono hj hji
      rw [H.1] at this
      cases this
  | succ fuel ih =>
    intro listed a w hfree hr hWl hy hS H
    refine ⟨fun h => (by rw [h] at hr; cases hr), fun j hj => ?_⟩
    by_cases hji : j = i
    · subst hji; exact hy.wpOp hi (hX _ _ hWl hS) ⟨hS.add _, H⟩
    · have h1 := H.2 j (ready_mono hj hji)
      obtain ⟨hjun, oj, hoj, hall⟩ := mem_ready.1 hj
      have hi0 : listed.getD i false = false := by
        have h0 := (mem_ready.1 hr).1
        rcases Nat.lt_or_ge i listed.size with h' | h'
        · simpa [h'] using h0
        · simp [Array.getElem?_eq_none h'] at h0
      have hnot : ∀ e ∈ oj.after, Region.binds md e = true → e.on ≠ i := fun e he hb heq => by
        have h1 := hall e he hb
        rw [heq, hi0] at h1; cases h1
      have hjW : j ∉ W := fun hjW => by
        obtain ⟨oj', hoj', e, he, heb, hon⟩ := hW j hjW
        rw [hoj] at hoj'; cases hoj'
        have h1 := hall e he heb
        rcases hon with hon | hon
        · rw [hon, hi0] at h1; cases h1
        · rw [hWl _ hon] at h1; cases h1
      have h2 := wpOp_putIf hoj (hfree j oj hoj hji hjun hnot) (fun cs b => hsel i oi cs b hi) (fun cs b => hsel j oj cs b hoj) hQ hy h1
      have hfree' : ∀ k ok, ops[k]? = some ok → k ≠ i → (listed.setIfInBounds j true).getD k true = false →
          (∀ e ∈ ok.after, Region.binds md e = true → e.on ≠ i) → oi.apart ops ok = true := fun k ok hk hki hun hno => by
        refine hfree k ok hk hki ?_ hno
        by_cases hjk : j = k
        · subst hjk; exact hjun
        · rw [getD_set_ne true hjk] at hun; exact hun
      have hWl' : ∀ k ∈ W, (listed.setIfInBounds j true).getD k false = false := fun k hk => by
        have hne : j ≠ k := fun e => hjW (by rw [e]; exact hk)
        rw [getD_set_ne false hne]; exact hWl k hk
      refine wpOp_mono (fun a' w' h3 => ?_) h2
      have h4 : Sf brk S1 S2 (listed.setIfInBounds j true) w' := by
        have h5 := h3.2.1
        rw [Array.setIfInBounds_comm _ _ (Ne.symm hji)] at h5
        exact h5.del hb
      refine ⟨h4, ih (listed.setIfInBounds j true) a' w' hfree' (ready_mono hr (Ne.symm hji)) hWl' h3.1 h4 ?_⟩
      rw [Array.setIfInBounds_comm _ _ hji]
      exact h3.2.2
end
end Go.AK
