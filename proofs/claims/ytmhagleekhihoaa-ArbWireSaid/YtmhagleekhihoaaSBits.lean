import Derived.Test.YtmhagleekhihoaaSBase
namespace Go.AK
open Go Go.RowKit Go.Proofs
set_option linter.unusedVariables false
set_option maxRecDepth 100000
theorem w64 {x : Int} (h1 : -9223372036854775808 ≤ x) (h2 : x ≤ 9223372036854775807) : IntKind.i64.wrap x = x := by rw [IntKind.wrap_i64]; omega
/-- The greatest of numbers. -/
def maxFrom (m : Int) : List Int → Int
  | [] => m
  | x :: xs => maxFrom (if x > m then x else m) xs
theorem maxFrom_pos : ∀ (L : List Int) (m : Int), (0 < maxFrom m L ↔ 0 < m ∨ ∃ x ∈ L, 0 < x)
  | [], m => by simp [maxFrom]
  | x :: xs, m => by
    rw [maxFrom, maxFrom_pos xs]
    simp only [List.mem_cons]
    constructor
    · rintro (h | ⟨y, h1, h2⟩)
      · split at h
        · exact .inr ⟨x, .inl rfl, h⟩
        · exact .inl h
      · exact .inr ⟨y, .inr h1, h2⟩
    · rintro (h | ⟨y, rfl | h1, h2⟩)
      · split <;> exact .inl (by omega)
      · split <;> exact .inl (by omega)
      · exact .inr ⟨y, h1, h2⟩
theorem max_spec (x : Int) (L : List Int) (hL : L.length < 1000) : ACall Try.prog 51 [.rs (nums .u8 (x :: L)) 0 1 (L.length + 1)] [] fun r H => r = .ret (.i .u8 (maxFrom x L)) ∧ H = [] := by
  refine ACall.enter tok false Try.func51 rfl rfl rfl (AW_sound (ip := false) tok _ _ _ _ ?_)
  conv => whnf
  rw [decide_eq_false (by omega : ¬ (((L.length + 1 : Nat) : Int) < 1))]
  conv => whnf
  refine ⟨⟨by omega, by omega⟩, ?_⟩
  conv => whnf
  refine ALoop.ind (ip := false) tok (fun n r H => ∃ (k : Nat) (m : Int), 1 ≤ k ∧ k ≤ L.length + 1 ∧ n = L.length + 1 - k ∧ maxFrom x L = maxFrom m (L.drop (k - 1)) ∧ H = [] ∧ r = [(4, .i .i64 k), (3, .i .u8 m), (0, .rs (nums .u8 (x :: L)) 0 1 (L.length + 1)), (2, .i .u8 0)]) L.length ?_ ?_
  · exact Gh.regs [4, 3, 0, 2] (Gh.of ⟨1, x, by omega, by omega, by omega, rfl, rfl, rfl⟩)
  · rintro n r H ⟨k, m, h1, hk, rfl, hf, rfl, rfl⟩
    conv => whnf
    by_cases h : (k : Int) < (L.length + 1 : Nat)
    · rw [decide_eq_true h]
      conv => whnf
      refine ⟨⟨by omega, h⟩, ?_⟩
      conv => whnf
      rw [show (0 + (k : Int).toNat * 1) = k from by omega]
      obtain ⟨j, rfl⟩ : ∃ j, k = j + 1 := ⟨k - 1, by omega⟩
      refine aget_nums (by simp; omega) ?_
      conv => whnf
      rw [w64 (by omega) (by omega)]
      have hd : L.drop (j + 1 - 1) = L[j]'(by omega) :: L.drop (j + 1) := by rw [Nat.add_sub_cancel]; exact List.drop_eq_getElem_cons (by omega)
      refine Gh.regs [4, 3, 0, 2] (Gh.of ⟨_, ?_, j + 2, _, by omega, by omega, rfl, ?_, rfl, rfl⟩)
      · omega
      · rw [hf, hd]; rfl
    · rw [decide_eq_false h]
      conv => whnf
      refine ⟨?_, rfl⟩
      have : k = L.length + 1 := by omega
      subst this
      rw [hf]; simp [maxFrom]
theorem level_spec (b : Bool) : ACall Try.prog 59 [.b b] [] fun r H => r = .ret (.i .i64 (if b = true then 1 else 0)) ∧ H = [] := by
  refine ACall.enter tok false Try.func59 rfl rfl rfl (AW_sound (ip := false) tok _ _ _ _ ?_)
  cases b
  · conv => whnf
    exact ⟨rfl, rfl⟩
  · conv => whnf
    exact ⟨rfl, rfl⟩
end Go.AK
