import Derived.Test.YtmhagleekhihoaaSOf
namespace Go.AK
open Go Go.RowKit Go.Proofs
set_option linter.unusedVariables false
set_option maxRecDepth 100000
def rowAV (L : List Int) : AV := .rs (ints L) 0 1 L.length
def rowsAV (Ls : List (List Int)) : List AV := Ls.map rowAV
theorem aget_rows {Ls : List (List Int)} {i : Nat} {K : AV → Prop} (h : i < Ls.length) (hk : K (rowAV Ls[i])) : aget (rowsAV Ls) i K := by
  unfold aget
  have : (rowsAV Ls)[i]? = some (rowAV Ls[i]) := by simp [rowsAV, h]
  rw [this]; exact hk
theorem subs_rows (φ : Nat → Sb) : ∀ (Ls : List (List Int)), subs φ (rowsAV Ls) = rowsAV Ls
  | [] => rfl
  | L :: Ls => by
    have := subs_rows φ Ls
    simp only [rowsAV, rowAV, List.map_cons, subs, sub, subs_nums] at this ⊢; rw [this]
theorem sum_take (Ls : List (List Int)) (k : Nat) (h : k < Ls.length) : (Ls.take (k + 1)).flatten = (Ls.take k).flatten ++ Ls[k] := by
  rw [List.take_add_one, List.getElem?_eq_getElem h, List.flatten_append]; simp
theorem flat_le (Ls : List (List Int)) (k : Nat) : (Ls.take k).flatten.length ≤ Ls.flatten.length := by
  have : Ls.flatten = (Ls.take k).flatten ++ (Ls.drop k).flatten := by rw [← List.flatten_append, List.take_append_drop]
  rw [this, List.length_append]; omega
theorem concat_spec (Ls : List (List Int)) (h0 : 0 < Ls.flatten.length) (hm : Ls.flatten.length ≤ 1000000) (hl : Ls.length ≤ 1000000) :
    ACall Try.prog 60 [.rs (rowsAV Ls) 0 1 Ls.length] [] fun r H => ∃ c, Ls.flatten.length ≤ c ∧ r = .ret (.sl (some (0, 0)) 1 Ls.flatten.length c) ∧ H = [.c (ints Ls.flatten)] := by
  refine ACall.enter tok false Try.func60 rfl rfl rfl (AW_sound (ip := false) tok _ _ _ _ ?_)
  conv => whnf
  refine ALoop.ind (ip := false) tok (fun m r H => ∃ (k : Nat), k ≤ Ls.length ∧ m = Ls.length - k ∧ H = [] ∧ r = [(11, .i .i64 k), (10, .i .i64 Ls.length), (3, .i .i64 ((Ls.take k).flatten.length : Nat)), (9, .rs (rowsAV Ls) 0 1 Ls.length), (0, .rs (rowsAV Ls) 0 1 Ls.length)]) Ls.length ?_ ?_
  · exact Gh.regs [11, 10, 3, 9, 0] (Gh.of ⟨0, by omega, by omega, rfl, by simp; rfl⟩)
  · rintro m r H ⟨k, hk, rfl, rfl, rfl⟩
    conv => whnf
    by_cases h : (k : Int) < Ls.length
    · rw [decide_eq_true h]
      conv => whnf
      refine ⟨⟨by omega, h⟩, ?_⟩
      conv => whnf
      have hkl : k < Ls.length := by omega
      have hle := flat_le Ls (k + 1)
      have hst := sum_take Ls k hkl
      rw [hst, List.length_append] at hle
      rw [show (0 + (k : Int).toNat * 1) = k from by omega]
      refine aget_rows hkl ?_
      conv => whnf
      rw [w64 (x := (((Ls.take k).flatten.length : Nat) : Int) + _) (by omega) (by omega)]
      rw [decide_eq_false (by omega : ¬ ((((Ls.take k).flatten.length : Nat) : Int) + (Ls[k].length : Nat) < 0))]
      conv => whnf
      rw [w64 (by omega) (by omega)]
      refine Gh.regs [11, 10, 3, 9, 0] (Gh.of ⟨_, ?_, k + 1, by omega, rfl, rfl, ?_⟩)
      · omega
      · rw [hst, List.length_append]; rfl
    · rw [decide_eq_false h]
      conv => whnf
      have : k = Ls.length := by omega
      subst this
      rw [List.take_length]
      refine ACall.mono (grow_spec Ls.flatten.length hm) ?_
      rintro r H (⟨h1, _⟩ | ⟨_, c, hc, rfl, rfl⟩)
      · omega
      conv => whnf
      refine ALoop.ind (ip := false) tok (fun m r H => ∃ (k c : Nat) (M : List AV), k ≤ Ls.length ∧ m = Ls.length - k ∧ (Ls.take k).flatten.length ≤ c ∧ M.take (Ls.take k).flatten.length = ints (Ls.take k).flatten ∧ (k = Ls.length → M = ints Ls.flatten ∨ k = 0) ∧ H = [.c M] ∧
        r = [(27, .i .i64 k), (26, .i .i64 Ls.length), (6, .sl (some (0, 0)) 1 (Ls.take k).flatten.length c), (25, .rs (rowsAV Ls) 0 1 Ls.length)]) Ls.length ?_ ?_
      · refine Gh.regs [27, 26, 6, 25] (Gh.of ⟨0, c, _, by omega, by omega, by simp, by simp [nums], fun _ => .inr rfl, rfl, by simp; rfl⟩)
      · rintro m r H ⟨k, c, M, hk, rfl, hc1, hM, hM2, rfl, rfl⟩
        conv => whnf
        by_cases h : (k : Int) < Ls.length
        · rw [decide_eq_true h]
          conv => whnf
          refine ⟨⟨by omega, h⟩, ?_⟩
          conv => whnf
          have hkl : k < Ls.length := by omega
          have hle := flat_le Ls (k + 1)
          have hst := sum_take Ls k hkl
          have hMl : (Ls.take k).flatten.length ≤ M.length := by
            have := congrArg List.length hM
            rw [nums_length, List.length_take] at this; omega
          rw [hst, List.length_append] at hle
          rw [show (0 + (k : Int).toNat * 1) = k from by omega]
          refine aget_rows hkl ?_
          conv => whnf
          refine ⟨by dsimp only; omega, ?_⟩
          conv => whnf
          refine ⟨by dsimp only; rw [nums_length]; omega, ?_⟩
          dsimp only
          rw [List.drop_zero, List.drop_zero, Nat.mul_one, Nat.mul_one, List.take_of_length_le (l := ints Ls[k]) (by rw [nums_length]; omega), hM, ← nums_append]
          refine ⟨ones_nums _ _, by omega, by omega, fun c' hc' => ?_⟩
          conv => whnf
          rw [w64 (by omega) (by omega), show (k : Int) + 1 = ((k + 1 : Nat) : Int) from by omega]
          refine Gh.regs [27, 26, 6, 25] (Gh.sel [1] rfl (Gh.of ⟨_, ?_, k + 1, c', _, by omega, rfl, ?_, ?_, ?_, rfl, ?_⟩))
          · omega
          · rw [hst, List.length_append]; exact hc'
          · rw [hst]; exact (by rw [subs_nums, List.take_of_length_le (by rw [nums_length]; exact Nat.le_refl _)])
          · intro h5; left; rw [subs_nums, ← hst, h5, List.take_length]
          · rw [hst, List.length_append]; refine keep_eq (show keepR _ _ = [_, _, _, _] from rfl) ?_; simp [subG, sub, selφ, posOf, subs_rows]
        · rw [decide_eq_false h]
          conv => whnf
          have : k = Ls.length := by omega
          subst this
          rcases hM2 rfl with rfl | h5
          · rw [List.take_length] at hc1 ⊢
            exact ⟨c, hc1, rfl, rfl⟩
          · rw [h5] at hM hc1
            have : Ls = [] := List.eq_nil_of_length_eq_zero h5
            subst this
            simp at h0
end Go.AK
