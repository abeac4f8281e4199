import Derived.Test.YtmhagleekhihoaaSFrame
namespace Go.AK
open Go Go.RowKit Go.Proofs
set_option linter.unusedVariables false
set_option maxRecDepth 100000
def Fr.rt (F : Fr) : Int := if F.rtr = true then 1 else 0
/-- The levels of arbitration. -/
def Fr.row (F : Fr) : List Int := if F.ext = true then ofI (F.id / 2 ^ 18) 11 ++ [1, 1] ++ ofI F.id 18 ++ [F.rt] else ofI F.id 11 ++ [F.rt, 0]
def ArbK (F : Fr) (r : ARes) (H : Heap) : Prop :=
  (¬F.may ∧ r = .ret (.tup [.sl none 0 0 0, .i .i64 14]) ∧ H = []) ∨ (F.may ∧ ∃ c, F.row.length ≤ c ∧ r = .ret (.tup [.sl (some (0, 0)) 1 F.row.length c, .i .i64 0]) ∧ H = [.c (ints F.row)])
theorem wu64 {x : Int} (h1 : 0 ≤ x) (h2 : x < 18446744073709551616) : IntKind.u64.wrap x = x := by rw [IntKind.wrap_u64]; omega
theorem Fr.av_sub (F : Fr) (φ : Nat → Sb) : sub φ F.av = F.av := rfl
theorem arb_spec (F : Fr) (hF : F.ok) : ACall Try.prog 42 [F.av] [] (ArbK F) := by
  refine ACall.gh ?_
  refine ACall.enter tok false Try.func42 rfl rfl rfl (AW_sound (ip := false) tok _ _ _ _ ?_)
  conv => whnf
  refine ACall.frame [] [] rfl (args' := [F.av]) (Hc := []) rfl rfl (check_spec F hF) ?_
  rintro r H ⟨rfl, rfl⟩
  refine ⟨.inl rfl, ?_⟩
  conv => whnf
  by_cases hm : F.may
  · rw [Fr.good hm]
    conv => whnf
    have hi := hm.1
    have hi2 := hm.2.1
    cases he : F.ext
    · conv => whnf
      rw [he] at hi2
      simp only [Bool.false_eq_true, if_false] at hi2
      rw [wu64 hi (by omega)]
      refine ACall.frame [] [] rfl (args' := [.i .u64 F.id, .i .i64 (11 : Nat)]) (Hc := []) rfl rfl (of_spec F.id 11 hi (by omega) (by omega)) ?_
      rintro r H ⟨rfl, rfl⟩
      refine ⟨.inl rfl, ?_⟩
      conv => whnf
      refine ACall.frame [] [] rfl (args' := [.b F.rtr]) (Hc := []) rfl rfl (level_spec F.rtr) ?_
      rintro r H ⟨rfl, rfl⟩
      refine ⟨.inl rfl, ?_⟩
      conv => whnf
      refine ⟨by dsimp only; rw [subs_nums, nums_length, ofI_length]; omega, ?_⟩
      conv => whnf
      refine ⟨by show 2 ≤ (2 : Nat); omega, ?_⟩
      conv => whnf
      refine ⟨rfl, by (try dsimp only); omega, by (try dsimp only); omega, fun c hc => ?_⟩
      conv => whnf
      have hrow : F.row = ofI F.id 11 ++ [F.rt, 0] := by rw [Fr.row, he]; rfl
      have hl : F.row.length = 13 := by rw [hrow, List.length_append, ofI_length]; rfl
      refine GhR.sel [3] rfl (GhR.of (.inr ⟨hm, c, by omega, ?_, ?_⟩))
      · rw [hl]; rfl
      · show [Blk.c (subs _ (List.take (11 * 1) (List.drop 0 (subs _ (ints (ofI F.id 11)))) ++ ints [F.rt, 0]))] = _
        rw [subs_nums, List.drop_zero, List.take_of_length_le (l := ints _) (by rw [nums_length, ofI_length]; omega), ← nums_append, subs_nums, hrow]
    · conv => whnf
      rw [he] at hi2
      simp only [if_true] at hi2
      rw [wu64 hi (by omega)]
      refine ⟨by omega, ?_⟩
      conv => whnf
      have hsh : F.id.fdiv (2 ^ min (Int.toNat 18) IntKind.u64.bits) = F.id / 2 ^ 18 := shr_nat F.id 18 (by omega)
      rw [hsh]
      have hd : F.id / 2 ^ 18 = F.id / 262144 := rfl
      refine ACall.frame [] [] rfl (args' := [.i .u64 (F.id / 2 ^ 18), .i .i64 (11 : Nat)]) (Hc := []) rfl rfl (of_spec (F.id / 2 ^ 18) 11 (by omega) (by omega) (by omega)) ?_
      rintro r H ⟨rfl, rfl⟩
      refine ⟨.inl rfl, ?_⟩
      conv => whnf
      rw [wu64 hi (by omega)]
      refine ACall.frame [] [] rfl (args' := [.i .u64 F.id, .i .i64 (18 : Nat)]) (Hc := []) rfl rfl (of_spec F.id 18 hi (by omega) (by omega)) ?_
      rintro r H ⟨rfl, rfl⟩
      refine ⟨.inl rfl, ?_⟩
      conv => whnf
      refine ACall.frame [] [] rfl (args' := [.b F.rtr]) (Hc := []) rfl rfl (level_spec F.rtr) ?_
      rintro r H ⟨rfl, rfl⟩
      refine ⟨.inl rfl, ?_⟩
      conv => whnf
      have hl1 := ofI_length 11 (F.id / 2 ^ 18)
      have hl2 := ofI_length 18 F.id
      have hrow : F.row = [ofI (F.id / 2 ^ 18) 11, [1, 1], ofI F.id 18, [F.rt]].flatten := by rw [Fr.row, he]; simp
      have hl : F.row.length = 32 := by rw [hrow]; simp only [List.flatten_cons, List.flatten_nil, List.length_append, hl1, hl2, List.length_cons, List.length_nil]
      refine ACall.frame [] [5, 1, 3, 2, 4] rfl (args' := [.rs (rowsAV [ofI (F.id / 2 ^ 18) 11, [1, 1], ofI F.id 18, [F.rt]]) 0 1 4]) (Hc := []) ?_ rfl
        (concat_spec [ofI (F.id / 2 ^ 18) 11, [1, 1], ofI F.id 18, [F.rt]] (by rw [← hrow, hl]; omega) (by rw [← hrow, hl]; omega) (by show 4 ≤ _; omega)) ?_
      · simp only [rowsAV, rowAV, List.map_cons, List.map_nil, hl1, hl2]
        show [AV.rs [.rs (subs _ (subs _ (ints (ofI (F.id / 2 ^ 18) 11)))) 0 1 11, .rs (ints [1, 1]) 0 1 2, .rs (subs _ (subs _ (ints (ofI F.id 18)))) 0 1 18, .rs (ints [F.rt]) 0 1 1] 0 1 4] = _
        simp only [subs_nums]
        rfl
      rintro r H ⟨c, hc, rfl, rfl⟩
      rw [← hrow] at hc ⊢
      refine ⟨.inr ⟨rfl, by simp [nroH, nroB, nros_nums]⟩, ?_⟩
      conv => whnf
      refine GhR.sel [6] rfl (GhR.of (.inr ⟨hm, c, by omega, rfl, ?_⟩))
      show [Blk.c (subs _ (subs _ (ints F.row)))] = _
      rw [subs_nums, subs_nums]
  · rw [Fr.bad hm]
    conv => whnf
    refine GhR.sel [] rfl (GhR.of (.inl ⟨hm, rfl, rfl⟩))
end Go.AK
