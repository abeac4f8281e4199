import Derived.Test.YtmhagleekhihoaaSOrder
namespace Go.AK
open Go Go.RowKit Go.Proofs
set_option linter.unusedVariables false
set_option maxRecDepth 100000
theorem aget_d {F : Fr} {k o : Nat} (ho : o = 4 + k) (hk : k < 8) {K : AV → Prop} (h : K (.i .u8 (F.d.getD k 0))) : aget F.cells o K := by
  subst ho
  have h2 : k = 0 ∨ k = 1 ∨ k = 2 ∨ k = 3 ∨ k = 4 ∨ k = 5 ∨ k = 6 ∨ k = 7 := by omega
  rcases h2 with rfl | rfl | rfl | rfl | rfl | rfl | rfl | rfl <;> exact h
theorem Fr.d_zero (F : Fr) (u : Nat) (h : ∀ k, k < 8 → u ≤ k → F.d.getD k 0 = 0) : ∀ x ∈ F.d.drop u, x = 0 := fun x hx => by
  obtain ⟨i, hi, rfl⟩ := List.mem_iff_getElem.1 hx
  have hl : F.d.length = 8 := rfl
  rw [List.length_drop] at hi
  have := h (u + i) (by omega) (by omega)
  rw [List.getElem_drop]
  rw [List.getD_eq_getElem?_getD, List.getElem?_eq_getElem (by omega)] at this
  exact this
theorem check3_spec (F : Fr) (hF : F.ok) : ACall Try.prog 48 [F.av] [] fun r H => r = .ret (.i .i64 F.chk) ∧ H = [] := by
  refine ACall.gh ?_
  refine ACall.enter tok false Try.func48 rfl rfl rfl (AW_sound (ip := false) tok _ _ _ _ ?_)
  have fin : ∀ v (H : Heap), v = F.chk → GhR 0 (fun r H => r = ARes.ret (.i .i64 F.chk) ∧ H = []) (.ret (.i .i64 v)) H := by
    rintro v H rfl
    exact GhR.sel [] rfl (GhR.of ⟨rfl, rfl⟩)
  have bad : ∀ (H : Heap), ¬F.may → GhR 0 (fun r H => r = ARes.ret (.i .i64 F.chk) ∧ H = []) (.ret (.i .i64 14)) H := fun H h => fin _ _ (Fr.bad h).symm
  conv => whnf
  cases he : F.ext <;> (conv => whnf)
  all_goals
    by_cases h1 : F.id < 0
    · rw [decide_eq_true h1]
      conv => whnf
      exact bad _ fun h => by have := h.1; omega
    rw [decide_eq_false h1]
    conv => whnf
    by_cases h2 : F.id > (if F.ext = true then 536870911 else 2047)
    · have h2' := h2
      simp only [he, if_true, if_false, reduceCtorEq] at h2'
      rw [decide_eq_true h2']
      conv => whnf
      exact bad _ fun h => by have := h.2.1; omega
    have h2' := h2
    simp only [he, if_true, if_false, reduceCtorEq] at h2'
    rw [decide_eq_false h2']
    conv => whnf
    by_cases h3 : F.len < 0
    · rw [decide_eq_true h3]
      conv => whnf
      exact bad _ fun h => by have := h.2.2.1; omega
    rw [decide_eq_false h3]
    conv => whnf
    by_cases h4 : F.len > 8
    · rw [decide_eq_true h4]
      conv => whnf
      exact bad _ fun h => by have := h.2.2.2.1; omega
    rw [decide_eq_false h4]
    conv => whnf
    refine ALoop.ind (ip := false) tok (fun m r H => ∃ k : Nat, k ≤ 8 ∧ m = 8 - k ∧ (∀ j, j < k → F.out ≤ j → F.d.getD j 0 = 0) ∧ H = [.c F.cells] ∧ r = [(4, .i .i64 k), (1, .p (some (0, 0)))]) 8 ?_ ?_
    · exact Gh.regs [4, 1] (Gh.of ⟨0, by omega, by omega, fun j h => by omega, rfl, rfl⟩)
    · rintro m r H ⟨k, hk, rfl, hz, rfl, rfl⟩
      conv => whnf
      by_cases h5 : (k : Int) < 8
      · rw [decide_eq_true h5]
        conv => whnf
        refine ⟨⟨by omega, by omega⟩, ?_⟩
        conv => whnf
        refine aget_d (F := F) (k := k) (by dsimp only; omega) (by omega) ?_
        conv => whnf
        have hk8 : k < 8 := by omega
        have nx : ∀ (r : Regs), (F.d.getD k 0 = 0 ∨ (F.rtr = false ∧ (k : Int) < F.len)) → keepR [4, 1] r = [(4, .i .i64 (IntKind.i64.wrap ((k : Int) + 1))), (1, .p (some (0, 0)))] → Gh 0 Try.f48.ntmps (fun r'' H'' => ∃ m, m < 8 - k ∧ ∃ k : Nat, k ≤ 8 ∧ m = 8 - k ∧ (∀ j, j < k → F.out ≤ j → F.d.getD j 0 = 0) ∧ H'' = [.c F.cells] ∧ r'' = [(4, .i .i64 k), (1, .p (some (0, 0)))]) r [.c F.cells] := fun r h6 h7 => by
          refine Gh.regs [4, 1] (Gh.of ⟨8 - (k + 1), by omega, k + 1, by omega, rfl, ?_, rfl, ?_⟩)
          · intro j h8 h9
            by_cases e : j = k
            · subst e
              rcases h6 with h6 | ⟨h6, h10⟩
              · exact h6
              · have : F.out = F.len.toNat := if_neg (by rw [h6]; exact Bool.false_ne_true)
                omega
            · exact hz j (by omega) h9
          · rw [h7, w64 (by omega) (by omega)]; rfl
        have hbad : F.d.getD k 0 ≠ 0 → (F.rtr = true ∨ F.len ≤ k) → ¬F.may := fun h6 h7 hm => by
          have ho : F.out ≤ k := by
            unfold Fr.out
            split
            · omega
            · rename_i h8
              rcases h7 with h7 | h7
              · exact absurd h7 h8
              · omega
          have hl : F.d.length = 8 := rfl
          refine h6 (hm.2.2.2.2 _ ?_)
          rw [List.getD_eq_getElem?_getD, List.getElem?_eq_getElem (by omega)]
          exact List.mem_iff_getElem.2 ⟨k - F.out, by rw [List.length_drop]; omega, by rw [List.getElem_drop]; simp only [show F.out + (k - F.out) = k from by omega]; rfl⟩
        by_cases h6 : F.d.getD k 0 = 0
        · rw [show (F.d.getD k 0 != 0) = false from by rw [h6]; rfl]
          conv => whnf
          refine nx _ (.inl h6) ?_
          rfl
        · rw [show (F.d.getD k 0 != 0) = true from bne_iff_ne.2 h6]
          conv => whnf
          cases hr : F.rtr
          · conv => whnf
            by_cases h7 : (k : Int) ≥ F.len
            · rw [decide_eq_true h7]
              conv => whnf
              exact bad _ (hbad h6 (.inr h7))
            · rw [decide_eq_false h7]
              conv => whnf
              refine nx _ (.inr ⟨hr, by omega⟩) ?_
              rfl
          · conv => whnf
            exact bad _ (hbad h6 (.inl hr))
      · rw [decide_eq_false h5]
        conv => whnf
        refine fin _ _ (Fr.good ⟨by omega, by omega, by omega, by omega, F.d_zero _ fun j h6 h7 => hz j (by omega) h7⟩).symm
end Go.AK
