import Derived.Test.YtmhagleekhihoaaSRef3
namespace Go.AK
open Go Go.RowKit Go.Proofs
set_option linter.unusedVariables false
set_option maxRecDepth 100000
theorem flag_spec (b : Bool) : ACall Try.prog 55 [.b b] [] fun r H => r = .ret (.i .i64 (if b = true then 1 else 0)) ∧ H = [] := by
  refine ACall.enter tok false Try.func55 rfl rfl rfl (AW_sound (ip := false) tok _ _ _ _ ?_)
  cases b
  · conv => whnf
    exact ⟨rfl, rfl⟩
  · conv => whnf
    exact ⟨rfl, rfl⟩
/-- A row that is made anew. -/
def NewRow (L : List Int) (r : ARes) (H : Heap) : Prop := (L = [] ∧ r = .ret (.sl none 0 0 0) ∧ H = []) ∨ (L ≠ [] ∧ ∃ c, L.length ≤ c ∧ r = .ret (.sl (some (0, 0)) 1 L.length c) ∧ H = [.c (ints L)])
theorem ofI_succ (n : Int) (w : Nat) : ofI n (w + 1) = ofI (n / 2) w ++ [n % 2] := rfl
theorem digits_spec : ∀ (w : Nat) (n : Int), 0 ≤ n → n < 9223372036854775808 → w ≤ 64 → ACall Try.prog 54 [.i .i64 n, .i .i64 w] [] (NewRow (ofI n w))
  | 0, n, h0, h1, hw => by
    refine ACall.enter tok false Try.func54 rfl rfl rfl (AW_sound (ip := false) tok _ _ _ _ ?_)
    conv => whnf
    exact .inl ⟨rfl, rfl, rfl⟩
  | w + 1, n, h0, h1, hw => by
    refine ACall.gh ?_
    refine ACall.enter tok false Try.func54 rfl rfl rfl (AW_sound (ip := false) tok _ _ _ _ ?_)
    conv => whnf
    rw [show (((w + 1 : Nat) : Int) == 0) = false from beq_eq_false_iff_ne.2 (by omega)]
    conv => whnf
    have hq : IntKind.i64.wrap (n.tdiv 2) = n / 2 := by rw [Int.tdiv_eq_ediv_of_nonneg h0, w64 (by omega) (by omega)]
    have hw1 : IntKind.i64.wrap (((w + 1 : Nat) : Int) - 1) = (w : Int) := by rw [w64 (by omega) (by omega)]; omega
    have hr : n.tmod 2 = n % 2 := Int.tmod_eq_emod_of_nonneg h0
    refine ⟨by decide, ?_⟩
    conv => whnf
    rw [hq, hw1]
    refine ACall.mono (digits_spec w (n / 2) (by omega) (by omega) (by omega)) ?_
    have hne : ofI n (w + 1) ≠ [] := by rw [ofI_succ]; simp
    rintro r H (⟨he, rfl, rfl⟩ | ⟨he, c, hc, rfl, rfl⟩)
    · conv => whnf
      refine ⟨by decide, ?_⟩
      conv => whnf
      rw [hr]
      refine ⟨by show 1 ≤ (1 : Nat); omega, ?_⟩
      conv => whnf
      refine ⟨rfl, by (try dsimp only); omega, by (try dsimp only); omega, fun c hc => ?_⟩
      conv => whnf
      have hw0 : w = 0 := by
        have := congrArg List.length he
        rw [ofI_length] at this; exact this
      subst hw0
      refine GhR.sel [1] rfl (GhR.of (.inr ⟨hne, c, by rw [ofI_length]; omega, rfl, rfl⟩))
    · conv => whnf
      refine ⟨by decide, ?_⟩
      conv => whnf
      rw [hr]
      have hl := ofI_length w (n / 2)
      refine ⟨by dsimp only; rw [nums_length]; omega, ?_⟩
      conv => whnf
      refine ⟨by show 1 ≤ (1 : Nat); omega, ?_⟩
      conv => whnf
      refine ⟨rfl, by (try dsimp only); omega, by (try dsimp only); omega, fun c2 hc2 => ?_⟩
      conv => whnf
      have hl2 := ofI_length (w + 1) n
      refine GhR.sel [2] rfl (GhR.of (.inr ⟨hne, c2, by omega, ?_, ?_⟩))
      · rw [hl2, hl]; rfl
      · show [Blk.c (subs _ (List.take ((ofI (n / 2) w).length * 1) (List.drop 0 (ints (ofI (n / 2) w))) ++ ints [n % 2]))] = _
        rw [List.drop_zero, List.take_of_length_le (by rw [nums_length]; omega), ← nums_append, subs_nums, ofI_succ]
theorem arb3_spec (F : Fr) (hm : F.may) : ACall Try.prog 36 [F.av] [] fun r H => ∃ c, F.row.length ≤ c ∧ r = .ret (.sl (some (0, 0)) 1 F.row.length c) ∧ H = [.c (ints F.row)] := by
  refine ACall.gh ?_
  refine ACall.enter tok false Try.func36 rfl rfl rfl (AW_sound (ip := false) tok _ _ _ _ ?_)
  have hi := hm.1
  have hi2 := hm.2.1
  conv => whnf
  cases he : F.ext
  · rw [he] at hi2
    simp only [Bool.false_eq_true, if_false] at hi2
    conv => whnf
    refine ADraw.gh (Gh.frz 0 rfl (Gh.of ?_))
    refine ADraw.ofS tok mixed false [4] [0, 1, 3, 4] [2, 5, 6, 7, 8] (by kernel_rfl) (fun _ _ _ _ h => h) ?_
    conv => whnf
    have hl := ofI_length 11 F.id
    have hl2 : (nums .i64 (ofI F.id 11)).length = 11 := by rw [nums_length, hl]
    refine ACall.frame [] [] rfl (args' := [.i .i64 F.id, .i .i64 (11 : Nat)]) (Hc := []) rfl rfl (digits_spec 11 F.id hi (by omega) (by omega)) ?_
    rintro r H (⟨h0, _⟩ | ⟨_, c, hc, rfl, rfl⟩)
    · rw [h0] at hl; cases hl
    refine ⟨.inl rfl, ?_⟩
    conv => whnf
    refine ACall.frame [] [] rfl (args' := [.b F.rtr]) (Hc := []) rfl rfl (flag_spec F.rtr) ?_
    rintro r H ⟨rfl, rfl⟩
    refine ⟨.inl rfl, ?_⟩
    conv => whnf
    refine ⟨by dsimp only; rw [subs_nums, hl2, hl]; omega, ?_⟩
    conv => whnf
    refine ⟨by show 2 ≤ (2 : Nat); omega, ?_⟩
    conv => whnf
    refine ⟨rfl, by (try dsimp only); rw [hl]; omega, by (try dsimp only); rw [hl]; omega, fun c2 hc2 => ?_⟩
    conv => whnf
    have hrow : F.row = ofI F.id 11 ++ [F.rt, 0] := by rw [Fr.row, he]; rfl
    have hlr : F.row.length = 13 := by rw [hrow, List.length_append, ofI_length]; rfl
    rw [hl] at hc2
    refine GhR.sel [3] rfl (GhR.of ⟨c2, by omega, ?_, ?_⟩)
    · rw [hlr, hl]; rfl
    · show [Blk.c (subs _ (List.take ((ofI F.id 11).length * 1) (List.drop 0 (subs _ (ints (ofI F.id 11)))) ++ ints [F.rt, 0]))] = _
      rw [subs_nums, List.drop_zero, List.take_of_length_le (by rw [hl2, hl]; omega), ← nums_append, subs_nums, hrow]
  · rw [he] at hi2
    simp only [if_true] at hi2
    conv => whnf
    have hq : IntKind.i64.wrap (F.id.tdiv 262144) = F.id / 2 ^ 18 := by
      have : F.id / 2 ^ 18 = F.id / 262144 := rfl
      rw [this, Int.tdiv_eq_ediv_of_nonneg hi, w64 (by omega) (by omega)]
    have hr : F.id.tmod 262144 = F.id % 2 ^ 18 := Int.tmod_eq_emod_of_nonneg hi
    have hd : F.id / 2 ^ 18 = F.id / 262144 := rfl
    have hd2 : F.id % 2 ^ 18 = F.id % 262144 := rfl
    have hl1 := ofI_length 11 (F.id / 2 ^ 18)
    have hl1n : (nums .i64 (ofI (F.id / 2 ^ 18) 11)).length = 11 := by rw [nums_length, hl1]
    have hl2 := ofI_length 18 (F.id % 2 ^ 18)
    have hl2n : (nums .i64 (ofI (F.id % 2 ^ 18) 18)).length = 18 := by rw [nums_length, hl2]
    refine ⟨by decide, ?_⟩
    conv => whnf
    rw [hq]
    refine ACall.frame [] [] rfl (args' := [.i .i64 (F.id / 2 ^ 18), .i .i64 (11 : Nat)]) (Hc := []) rfl rfl (digits_spec 11 (F.id / 2 ^ 18) (by omega) (by omega) (by omega)) ?_
    rintro r H (⟨h0, _⟩ | ⟨_, c, hc, rfl, rfl⟩)
    · rw [h0] at hl1; cases hl1
    refine ⟨.inl rfl, ?_⟩
    conv => whnf
    refine ⟨by dsimp only; rw [subs_nums, hl1n, hl1]; omega, ?_⟩
    conv => whnf
    refine ⟨by show 2 ≤ (2 : Nat); omega, ?_⟩
    conv => whnf
    refine ⟨rfl, by (try dsimp only); rw [hl1]; omega, by (try dsimp only); rw [hl1]; omega, fun c2 hc2 => ?_⟩
    conv => whnf
    refine ⟨by decide, ?_⟩
    conv => whnf
    rw [hr]
    refine ACall.frame [] [] rfl (args' := [.i .i64 (F.id % 2 ^ 18), .i .i64 (18 : Nat)]) (Hc := []) rfl rfl (digits_spec 18 (F.id % 2 ^ 18) (by omega) (by omega) (by omega)) ?_
    rintro r H (⟨h0, _⟩ | ⟨_, c3, hc3, rfl, rfl⟩)
    · rw [h0] at hl2; cases hl2
    refine ⟨.inl rfl, ?_⟩
    conv => whnf
    refine ⟨by dsimp only; rw [subs_nums, List.length_append, List.length_take, List.drop_zero, hl1n, hl1]; show 13 ≤ min 11 11 + 2; omega, ?_⟩
    conv => whnf
    refine ⟨by dsimp only; rw [subs_nums, hl2n, hl2]; omega, ?_⟩
    conv => whnf
    refine ⟨by dsimp only; rw [subs_nums, nums_drop, nums_take]; exact ones_nums _ _, by dsimp only; rw [hl1, hl2]; omega, by rw [hl1, hl2]; omega, fun c4 hc4 => ?_⟩
    conv => whnf
    refine ACall.frame [] [] rfl (args' := [.b F.rtr]) (Hc := []) rfl rfl (flag_spec F.rtr) ?_
    rintro r H ⟨rfl, rfl⟩
    refine ⟨.inl rfl, ?_⟩
    conv => whnf
    refine ⟨?_, ?_⟩
    · show 0 + ((ofI (F.id / 2 ^ 18) 11).length + 2 + (ofI (F.id % 2 ^ 18) 18).length) * 1 ≤ (List.take (((ofI (F.id / 2 ^ 18) 11).length + 2) * 1) (List.drop 0 (List.take ((ofI (F.id / 2 ^ 18) 11).length * 1) (List.drop 0 (subs _ (ints (ofI (F.id / 2 ^ 18) 11)))) ++ ints [1, 1])) ++ List.take ((ofI (F.id % 2 ^ 18) 18).length * 1) (List.drop 0 (subs _ (ints (ofI (F.id % 2 ^ 18) 18))))).length
      simp only [subs_nums, List.drop_zero, List.length_append, List.length_take, nums_length, hl1, hl2, List.length_cons, List.length_nil]
      omega
    conv => whnf
    refine ⟨by show 1 ≤ (1 : Nat); omega, ?_⟩
    conv => whnf
    refine ⟨rfl, by (try dsimp only); rw [hl1, hl2]; omega, by (try dsimp only); rw [hl1, hl2]; omega, fun c5 hc5 => ?_⟩
    conv => whnf
    have hrow : F.row = ofI (F.id / 2 ^ 18) 11 ++ [1, 1] ++ ofI F.id 18 ++ [F.rt] := by rw [Fr.row, he]; rfl
    have hlr : F.row.length = 32 := by rw [hrow, List.length_append, List.length_append, List.length_append, ofI_length, ofI_length]; rfl
    refine GhR.sel [7] rfl (GhR.of ⟨c5, by omega, ?_, ?_⟩)
    · rw [hlr, hl1, hl2]; rfl
    · show [Blk.c (subs _ (List.take (((ofI (F.id / 2 ^ 18) 11).length + 2 + (ofI (F.id % 2 ^ 18) 18).length) * 1) (List.drop 0 (List.take (((ofI (F.id / 2 ^ 18) 11).length + 2) * 1) (List.drop 0 (List.take ((ofI (F.id / 2 ^ 18) 11).length * 1) (List.drop 0 (subs _ (ints (ofI (F.id / 2 ^ 18) 11)))) ++ ints [1, 1])) ++ List.take ((ofI (F.id % 2 ^ 18) 18).length * 1) (List.drop 0 (subs _ (ints (ofI (F.id % 2 ^ 18) 18)))))) ++ ints [F.rt]))] = _
      simp only [subs_nums, List.drop_zero, Nat.mul_one]
      rw [nums_take, ← nums_append, nums_take, nums_take, ← nums_append, nums_take, ← nums_append, subs_nums, hrow]
      rw [List.take_of_length_le (l := ofI (F.id / 2 ^ 18) 11) (by omega), List.take_of_length_le (l := ofI (F.id % 2 ^ 18) 18) (by omega)]
      rw [List.take_of_length_le (l := ofI (F.id / 2 ^ 18) 11 ++ [1, 1]) (by simp), List.take_of_length_le (by simp only [List.length_append, List.length_cons, List.length_nil]; omega), ofI_mod]
end Go.AK
