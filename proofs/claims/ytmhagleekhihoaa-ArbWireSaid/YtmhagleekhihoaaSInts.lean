import Derived.Test.YtmhagleekhihoaaSPlain
namespace Go.AK
open Go Go.RowKit Go.Proofs
set_option linter.unusedVariables false
set_option maxRecDepth 100000
theorem ints_spec (L M : List Int) (hL : L.length < 1000000000) : ACall Try.prog 39 [.rs (ints L) 0 1 L.length, .rs (ints M) 0 1 M.length] [] fun r H => r = .ret (.b (decide (L = M))) ∧ H = [] := by
  refine ACall.enter tok false Try.func39 rfl rfl rfl (AW_sound (ip := false) tok _ _ _ _ ?_)
  conv => whnf
  by_cases hl : L.length = M.length
  · rw [show ((L.length : Int) != (M.length : Int)) = false from by rw [hl]; exact bne_self_eq_false _]
    conv => whnf
    refine ALoop.ind (ip := false) tok (fun m r H => ∃ (k : Nat), k ≤ L.length ∧ m = L.length - k ∧ (∀ j, j < k → L.getD j 0 = M.getD j 0) ∧ H = [] ∧
      r = [(5, .i .i64 k), (0, .rs (ints L) 0 1 L.length), (1, .rs (ints M) 0 1 M.length), (4, .b false)]) L.length ?_ ?_
    · exact Gh.regs [5, 0, 1, 4] (Gh.of ⟨0, by omega, by omega, fun j h => by omega, rfl, rfl⟩)
    · rintro m r H ⟨k, hk, rfl, hn, rfl, rfl⟩
      conv => whnf
      by_cases h : (k : Int) < L.length
      · rw [decide_eq_true h]
        conv => whnf
        refine ADraw.of tok mixed false [0, 1, 2, 3, 4, 5, 6, 7, 8] [] (by kernel_rfl) (fun _ _ _ _ h => h) ?_
        conv => whnf
        refine ⟨⟨by omega, by omega⟩, ?_⟩
        conv => whnf
        rw [show (0 + (k : Int).toNat * 1) = k from by omega]
        refine aget_nums (by omega) ?_
        conv => whnf
        refine ⟨⟨by omega, by omega⟩, ?_⟩
        conv => whnf
        rw [show (0 + (k : Int).toNat * 1) = k from by omega]
        refine aget_nums (by omega) ?_
        conv => whnf
        have e1 : L.getD k 0 = L[k]'(by omega) := by rw [List.getD_eq_getElem?_getD, List.getElem?_eq_getElem (by omega)]; rfl
        have e2 : M.getD k 0 = M[k]'(by omega) := by rw [List.getD_eq_getElem?_getD, List.getElem?_eq_getElem (by omega)]; rfl
        by_cases he : L[k]'(by omega) = M[k]'(by omega)
        · rw [show (L[k]'(by omega) != M[k]'(by omega)) = false from by rw [he]; exact bne_self_eq_false _]
          conv => whnf
          rw [w64 (by omega) (by omega)]
          refine Gh.regs [5, 0, 1, 4] (Gh.of ⟨_, ?_, k + 1, by omega, rfl, ?_, rfl, rfl⟩)
          · omega
          · intro j hj
            by_cases e : j = k
            · subst e; rw [e1, e2, he]
            · exact hn j (by omega)
        · rw [show (L[k]'(by omega) != M[k]'(by omega)) = true from bne_iff_ne.2 he]
          conv => whnf
          refine ⟨?_, rfl⟩
          rw [decide_eq_false (fun h => he (by subst h; rfl))]
      · rw [decide_eq_false h]
        conv => whnf
        refine ⟨?_, rfl⟩
        rw [decide_eq_true (list_ext hl fun i hi => hn i (by omega))]
  · rw [show ((L.length : Int) != (M.length : Int)) = true from bne_iff_ne.2 (by omega)]
    conv => whnf
    refine ⟨?_, rfl⟩
    rw [decide_eq_false (fun h => hl (by rw [h]))]
end Go.AK
