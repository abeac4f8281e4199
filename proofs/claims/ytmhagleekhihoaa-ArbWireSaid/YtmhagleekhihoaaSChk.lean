import Derived.Test.YtmhagleekhihoaaSRows
namespace Go.AK
open Go Go.RowKit Go.Proofs
set_option linter.unusedVariables false
set_option maxRecDepth 100000
theorem wired_spec (L : List Int) (hL : L.length < 1000000000) : ACall Try.prog 32 [.rs (ints L) 0 1 L.length] [] fun r H => r = .ret (.i .i64 (if (0 : Int) ∈ L then 0 else 1)) ∧ H = [] := by
  refine ACall.enter tok false Try.func32 rfl rfl rfl (AW_sound (ip := false) tok _ _ _ _ ?_)
  conv => whnf
  refine ACall.mono (contains_spec L 0 hL) ?_; rintro r H ⟨rfl, rfl⟩
  conv => whnf
  by_cases h : (0 : Int) ∈ L
  · rw [decide_eq_true h, if_pos h]
    conv => whnf
    exact ⟨rfl, rfl⟩
  · rw [decide_eq_false h, if_neg h]
    conv => whnf
    exact ⟨rfl, rfl⟩
/-- A function value that tells of each frame whether it is such a one. -/
def Tells (f : Nat) (cap : List AV) (H : Heap) (p : Fr → Bool) : Prop := ∀ F : Fr, F.ok → ACall Try.prog f (F.av :: cap) H fun r H' => r = .ret (.b (p F)) ∧ H' = H
theorem rivalFn_spec (F : Fr) (hF : F.ok) : Tells 69 [.p (some (0, 0))] [.c F.cells] (fun G => F.rival G) := fun G hG => by
  refine ACall.gh ?_
  refine ACall.enter tok false Try.func69 rfl rfl rfl (AW_sound (ip := false) tok _ _ _ _ ?_)
  conv => whnf
  refine ACall.frame [] [] rfl (args' := [F.av, G.av]) (Hc := []) rfl rfl (rival_spec F G hF hG) ?_
  rintro r H ⟨rfl, rfl⟩
  refine ⟨.inl rfl, ?_⟩
  conv => whnf
  exact GhR.sel [0] rfl (GhR.of ⟨rfl, rfl⟩)
theorem indexFunc_spec (L : List Fr) (hL : L.length < 1000000000) (hok : ∀ F ∈ L, F.ok) (f : Nat) (cap : List AV) (H : Heap) (p : Fr → Bool) (ht : Tells f cap H p) :
    ACall Try.prog 64 [.rs (frs L) 0 12 L.length, .fn (.func f) [] cap] H fun r H' => ∃ v, IsIdx p L v ∧ r = .ret (.i .i64 v) ∧ H' = H := by
  refine ACall.enter tok false Try.func64 rfl rfl rfl (AW_sound (ip := false) tok _ _ _ _ ?_)
  conv => whnf
  refine ALoop.ind (ip := false) tok (fun m r H' => ∃ (k : Nat), k ≤ L.length ∧ m = L.length - k ∧ (∀ j (h : j < L.length), j < k → p L[j] = false) ∧ H' = H ∧
    r = [(8, .i .i64 k), (7, .i .i64 L.length), (0, .rs (frs L) 0 12 L.length), (1, .fn (.func f) [] cap), (4, .i .i64 0)]) L.length ?_ ?_
  · exact Gh.regs [8, 7, 0, 1, 4] (Gh.of ⟨0, by omega, by omega, fun j _ h => by omega, rfl, rfl⟩)
  · rintro m r H' ⟨k, hk, rfl, hn, rfl, rfl⟩
    conv => whnf
    by_cases h : (k : Int) < L.length
    · rw [decide_eq_true h]
      conv => whnf
      refine ⟨⟨by omega, h⟩, ?_⟩
      conv => whnf
      refine aget_fr (k := k) (by omega) (by omega) ?_
      conv => whnf
      refine ACall.mono (ht L[k] (hok _ (List.getElem_mem _))) ?_; rintro r H ⟨rfl, rfl⟩
      conv => whnf
      cases he : p (L[k]'(by omega))
      · conv => whnf
        rw [w64 (by omega) (by omega)]
        refine Gh.regs [8, 7, 0, 1, 4] (Gh.of ⟨_, ?_, k + 1, by omega, rfl, ?_, rfl, rfl⟩)
        · omega
        · intro j hj hj2
          by_cases e : j = k
          · subst e; exact he
          · exact hn j hj (by omega)
      · conv => whnf
        exact ⟨_, .inl ⟨k, by omega, rfl, he, hn⟩, rfl, rfl⟩
    · rw [decide_eq_false h]
      conv => whnf
      have : k = L.length := by omega
      subst this
      exact ⟨_, idx_none hn, rfl, rfl⟩
theorem containsFunc_spec (L : List Fr) (hL : L.length < 1000000000) (hok : ∀ F ∈ L, F.ok) (f : Nat) (cap : List AV) (H : Heap) (p : Fr → Bool) (ht : Tells f cap H p) :
    ACall Try.prog 68 [.rs (frs L) 0 12 L.length, .fn (.func f) [] cap] H fun r H' => r = .ret (.b (L.any p)) ∧ H' = H := by
  refine ACall.enter tok false Try.func68 rfl rfl rfl (AW_sound (ip := false) tok _ _ _ _ ?_)
  conv => whnf
  refine ACall.mono (indexFunc_spec L hL hok f cap H p ht) ?_; rintro r H ⟨v, hv, rfl, rfl⟩
  conv => whnf
  refine ⟨?_, rfl⟩
  have e : decide (v ≥ 0) = L.any p := by
    rw [Bool.eq_iff_iff, decide_eq_true_eq, List.any_eq_true]
    exact hv.pos
  rw [e]
end Go.AK
