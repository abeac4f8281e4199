import Derived.Test.YtmhagleekhihoaaSBits
import Derived.Test.YtmhagleekhihoaaSPure
namespace Go.AK
open Go Go.RowKit Go.Proofs
set_option linter.unusedVariables false
set_option maxRecDepth 100000
theorem shr_nat (n : Int) (i : Nat) (hi : i ≤ 64) : n.fdiv (2 ^ min (i : Int).toNat IntKind.u64.bits) = n / 2 ^ i := by
  rw [Int.toNat_natCast, Nat.min_eq_left (by simpa [IntKind.bits] using hi)]
  exact Int.fdiv_eq_ediv_of_nonneg _ (Int.le_of_lt (pow_pos i))
theorem bit_nat (n : Int) (i : Nat) (h0 : 0 ≤ n) (h1 : n < 18446744073709551616) : bits .and .u64 (n / 2 ^ i) 1 = n / 2 ^ i % 2 := by
  have hp := pow_pos i
  have hn := Int.ediv_nonneg h0 (Int.le_of_lt hp)
  have hle : n / 2 ^ i ≤ n := Int.ediv_le_self _ h0
  rw [u64_and _ _ hn (by omega) (by omega) (by omega)]
  have : ((n / 2 ^ i).toNat &&& (1 : Int).toNat) = (n / 2 ^ i).toNat % 2 := Nat.and_one_is_mod _
  rw [this]; omega
theorem of_spec (n : Int) (w : Nat) (h0 : 0 ≤ n) (h1 : n < 18446744073709551616) (hw : w ≤ 64) : ACall Try.prog 58 [.i .u64 n, .i .i64 w] [] fun r H => r = .ret (.tup [.sl (some (0, 0)) 1 w w, .i .i64 0]) ∧ H = [.c (ints (ofI n w))] := by
  refine ACall.enter tok false Try.func58 rfl rfl rfl (AW_sound (ip := false) tok _ _ _ _ ?_)
  conv => whnf
  rw [decide_eq_false (by omega : ¬ ((w : Int) < 0))]
  conv => whnf
  rw [decide_eq_false (by omega : ¬ ((w : Int) > 64))]
  conv => whnf
  refine ⟨⟨by omega, by omega, by show (8 : Int) * w ≤ _; omega, by omega⟩, ?_⟩
  conv => whnf
  rw [show (List.replicate (w : Int).toNat (AV.i .i64 0).cells).flatten = ints (List.replicate w 0) from by simp [AV.cells, nums]]
  rw [Int.toNat_natCast]
  refine ALoop.ind (ip := false) tok (fun m r H => ∃ (k : Nat) (L : List Int), k ≤ w ∧ m = w - k ∧ L.length = w ∧ (∀ j, w - k ≤ j → j < w → L.getD j 0 = n / 2 ^ (w - 1 - j) % 2) ∧ H = [.c (ints L)] ∧
      r = [(17, .i .i64 k), (16, .i .i64 w), (6, .sl (some (0, 0)) 1 w w), (1, .i .i64 w), (0, .i .u64 n)]) w ?_ ?_
  · exact Gh.regs [17, 16, 6, 1, 0] (Gh.of ⟨0, _, by omega, by omega, by simp, by intro j h1 h2; omega, rfl, rfl⟩)
  · rintro m r H ⟨k, L, hk, rfl, hl, hL, rfl, rfl⟩
    conv => whnf
    by_cases h : (k : Int) < w
    · rw [decide_eq_true h]
      conv => whnf
      refine ⟨by omega, ?_⟩
      conv => whnf
      rw [shr_nat n k (by omega), bit_nat n k h0 h1, w64 (x := (w : Int) - 1) (by omega) (by omega), w64 (x := (w : Int) - 1 - k) (by omega) (by omega), w64 (x := n / 2 ^ k % 2) (by omega) (by omega)]
      refine ⟨⟨by omega, by omega⟩, ?_⟩
      conv => whnf
      refine ⟨by simp only [nums_length]; omega, ?_⟩
      conv => whnf
      rw [show 0 + ((w : Int) - 1 - k).toNat * 1 = w - 1 - k from by omega]
      rw [show IntKind.i64.wrap ((k : Int) + 1) = ((k + 1 : Nat) : Int) from by rw [w64 (by omega) (by omega)]; omega]
      refine Gh.regs [17, 16, 6, 1, 0] (Gh.of ⟨_, ?_, k + 1, L.set (w - 1 - k) (n / 2 ^ k % 2), by omega, rfl, by simp [hl], ?_, ?_, rfl⟩)
      · omega
      · intro j h2 h3
        rw [getD_set L _ _ _ (by omega)]
        by_cases e : w - 1 - k = j
        · rw [if_pos e]; rw [show w - 1 - j = k from by omega]
        · rw [if_neg e]; exact hL j (by omega) h3
      · exact congrArg (fun c => [Blk.c c]) (setCells_nums _ _ _ _)
    · rw [decide_eq_false h]
      conv => whnf
      refine ⟨rfl, ?_⟩
      have : k = w := by omega
      subst this
      rw [show L = ofI n k from list_ext (by rw [hl, ofI_length]) (fun i hi => by rw [hL i (by omega) (by omega), ofI_get k n i (by omega)])]
theorem grow_spec (n : Nat) (hn : n ≤ 1000000) : ACall Try.prog 72 [.sl none 0 0 0, .i .i64 n] [] fun r H => (n = 0 ∧ r = .ret (.sl none 0 0 0) ∧ H = []) ∨ (n ≠ 0 ∧ ∃ c, n ≤ c ∧ r = .ret (.sl (some (0, 0)) 1 0 c) ∧ H = [.c (ints (List.replicate n 0))]) := by
  refine ACall.enter tok false Try.func72 rfl rfl rfl (AW_sound (ip := false) tok _ _ _ _ ?_)
  conv => whnf
  rw [decide_eq_false (by omega : ¬ ((n : Int) < 0))]
  conv => whnf
  rw [w64 (x := ((0 : Nat) : Int) - ((0 : Nat) : Int)) (by omega) (by omega), w64 (by omega) (by omega)]
  rw [show (n : Int) - (((0 : Nat) : Int) - ((0 : Nat) : Int)) = n from by omega]
  by_cases h : (n : Int) > 0
  · rw [decide_eq_true h]
    conv => whnf
    refine ⟨⟨by omega, by omega⟩, ?_⟩
    conv => whnf
    refine ⟨⟨by omega, by simp [Int.toNat_natCast]; omega, by omega⟩, ?_⟩
    conv => whnf
    refine ⟨fun h0 => by omega, fun _ c hc => ?_⟩
    conv => whnf
    refine ⟨⟨by omega, by simp⟩, ?_⟩
    conv => whnf
    refine .inr ⟨by omega, c, by omega, ?_, ?_⟩
    · simp
    · rw [Int.toNat_natCast]
      rw [show (List.replicate n (AV.i .i64 0).cells).flatten = ints (List.replicate n 0) from by simp [AV.cells, nums]]
      rfl
  · rw [decide_eq_false h]
    conv => whnf
    exact .inl ⟨by omega, rfl, rfl⟩
end Go.AK
