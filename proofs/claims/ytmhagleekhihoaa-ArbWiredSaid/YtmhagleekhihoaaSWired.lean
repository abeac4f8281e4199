import Derived.Test.YtmhagleekhihoaaSAwake
import Derived.Test.YtmhagleekhihoaaSTop
namespace Go.AK
open Go Go.RowKit Go.Proofs
set_option linter.unusedVariables false
set_option maxRecDepth 100000
theorem take_has (L : List Int) (k : Nat) (h : k < L.length) : ((0 : Int) ∈ L.take (k + 1)) ↔ (0 : Int) ∈ L.take k ∨ L[k] = 0 := by
  rw [List.take_succ_eq_append_getElem h, List.mem_append, List.mem_singleton]
  exact ⟨fun h => h.imp id Eq.symm, fun h => h.imp id Eq.symm⟩
theorem lawWired (L : List Int) : ACall Try.prog 8 [.rs (ints L) 0 1 L.length] [] fun r H => r = .ret (.b true) ∧ H = [] := by
  refine ACall.enter tok false Try.func8 rfl rfl rfl (AW_sound (ip := false) tok _ _ _ _ ?_)
  conv => whnf
  by_cases h : (L.length : Int) > 100
  · rw [decide_eq_true h]
    conv => whnf
    refine ACall.mono awake_spec ?_; rintro r H ⟨rfl, rfl⟩
    conv => whnf
    exact ⟨rfl, rfl⟩
  rw [decide_eq_false h]
  conv => whnf
  refine ALoop.ind (ip := false) tok (fun m r H => ∃ (k : Nat), k ≤ L.length ∧ m = L.length - k ∧ H = [] ∧
    r = [(4, .i .i64 k), (0, .rs (ints L) 0 1 L.length), (3, .i .i64 (if (0 : Int) ∈ L.take k then 0 else 1)), (2, .b false)]) L.length ?_ ?_
  · exact Gh.regs [4, 0, 3, 2] (Gh.of ⟨0, by omega, by omega, rfl, rfl⟩)
  · rintro m r H ⟨k, hk, rfl, rfl, rfl⟩
    conv => whnf
    by_cases h1 : (k : Int) < L.length
    · rw [decide_eq_true h1]
      conv => whnf
      refine ⟨⟨by omega, h1⟩, ?_⟩
      conv => whnf
      rw [show (0 + (k : Int).toNat * 1) = k from by omega]
      refine aget_nums (by omega) ?_
      conv => whnf
      have ht := take_has L k (by omega)
      by_cases h2 : L[k]'(by omega) = 0
      · rw [show (L[k]'(by omega) == 0) = true from beq_iff_eq.2 h2]
        conv => whnf
        rw [w64 (by omega) (by omega)]
        refine Gh.regs [4, 0, 3, 2] (Gh.of ⟨_, ?_, k + 1, by omega, rfl, rfl, ?_⟩)
        · omega
        · rw [if_pos (ht.2 (.inr h2))]; rfl
      · rw [show (L[k]'(by omega) == 0) = false from beq_eq_false_iff_ne.2 h2]
        conv => whnf
        rw [w64 (by omega) (by omega)]
        refine Gh.regs [4, 0, 3, 2] (Gh.of ⟨_, ?_, k + 1, by omega, rfl, rfl, ?_⟩)
        · omega
        · have e : ((0 : Int) ∈ L.take (k + 1)) ↔ (0 : Int) ∈ L.take k := by rw [ht]; exact ⟨fun h => h.resolve_right h2, .inl⟩
          simp only [e]
          rfl
    · rw [decide_eq_false h1]
      conv => whnf
      have : k = L.length := by omega
      subst this
      rw [List.take_length]
      refine ACall.mono (wired_spec L (by omega)) ?_; rintro r H ⟨rfl, rfl⟩
      conv => whnf
      rw [show ((if (0 : Int) ∈ L then (0 : Int) else 1) == (if (0 : Int) ∈ L then (0 : Int) else 1)) = true from beq_self_eq_true _]
      conv => whnf
      refine ACall.mono (ACall.args (wired_spec [] (by decide)) (VLe.nilrow VLe.nil)) ?_; rintro r H ⟨rfl, rfl⟩
      rw [show (if (0 : Int) ∈ ([] : List Int) then (0 : Int) else 1) = 1 from rfl]
      conv => whnf
      refine ACall.mono awake_spec ?_; rintro r H ⟨rfl, rfl⟩
      conv => whnf
      exact ⟨rfl, rfl⟩
end Go.AK
