import Derived.Test.YtmhagleekhihoaaSIns
namespace Go.AK
open Go Go.RowKit Go.Proofs
set_option linter.unusedVariables false
set_option maxRecDepth 100000
theorem lenu_spec (n : Nat) (hn : n < 256) : ACall Try.prog 85 [.i .u64 n] [] fun r H => ∃ v, r = .ret (.i .i64 v) ∧ H = [] := by
  refine ACall.enter tok false Try.func85 rfl rfl rfl (AW_sound (ip := false) tok _ _ _ _ ?_)
  conv => whnf
  rw [decide_eq_false (by omega : ¬ ((n : Int) ≥ 4294967296))]
  conv => whnf
  rw [decide_eq_false (by omega : ¬ ((n : Int) ≥ 65536))]
  conv => whnf
  rw [decide_eq_false (by omega : ¬ ((n : Int) ≥ 256))]
  conv => whnf
  have hw : IntKind.u8.wrap (n : Int) = n := by rw [IntKind.wrap_u8]; omega
  refine ⟨⟨by rw [hw]; omega, ?_⟩, ?_⟩
  · rw [hw]
    refine Int.lt_of_lt_of_le (b := 256) (by omega) (of_decide_eq_true (by kernel_rfl))
  conv => whnf
  exact ⟨_, rfl, rfl⟩
theorem len_spec (n : Nat) (hn : n < 256) : ACall Try.prog 71 [.i .u64 n] [] fun r H => ∃ v, r = .ret (.i .i64 v) ∧ H = [] := by
  refine ACall.enter tok false Try.func71 rfl rfl rfl (AW_sound (ip := false) tok _ _ _ _ ?_)
  conv => whnf
  refine ACall.mono (lenu_spec n hn) ?_; rintro r H ⟨v, rfl, rfl⟩
  conv => whnf
  exact ⟨_, rfl, rfl⟩
theorem pdq_spec (l : List Fr) (hok : ∀ F ∈ l, F.ok) (L : List Int) (hL : L.length ≤ 12) (hp : Plc l.length L) (c : Nat) (v : Int) :
    ACall Try.prog 70 [.sl (some (1, 0)) 1 L.length c, .i .i64 0, .i .i64 L.length, .i .i64 v, .fn (.func 57) [] [.p (some (0, 0))]] [.c [.rs (frs l) 0 12 l.length], .c (ints L)]
      fun r H => r = .ret (.tup []) ∧ H = [.c [.rs (frs l) 0 12 l.length], .c (ints (insFrom (ordI l) (L.length - 1) 1 L))] := by
  refine ACall.enter tok false Try.func70 rfl rfl rfl (AW_sound (ip := false) tok _ _ _ _ ?_)
  conv => whnf
  refine ⟨fun E0 w0 E a w hb => ?_⟩
  refine (show ALoop _ _ _ _ _ _ _ from ?_).out E0 w0 E a w hb
  refine ALoop.ind (ip := false) tok (fun m r H => r = _ ∧ H = _) 0 (Gh.of ⟨rfl, rfl⟩) ?_
  rintro m r H ⟨rfl, rfl⟩
  conv => whnf
  rw [w64 (by omega) (by omega)]
  rw [decide_eq_true (by omega : (L.length : Int) - 0 ≤ 12)]
  conv => whnf
  refine ACall.mono (ins_spec l hok L (by omega) hp c) ?_
  rintro r H ⟨rfl, rfl⟩
  conv => whnf
  exact ⟨rfl, rfl⟩
theorem sortf_spec (l : List Fr) (hok : ∀ F ∈ l, F.ok) (L : List Int) (hL : L.length ≤ 12) (hp : Plc l.length L) (c : Nat) :
    ACall Try.prog 56 [.sl (some (1, 0)) 1 L.length c, .fn (.func 57) [] [.p (some (0, 0))]] [.c [.rs (frs l) 0 12 l.length], .c (ints L)]
      fun r H => r = .ret (.tup []) ∧ H = [.c [.rs (frs l) 0 12 l.length], .c (ints (insFrom (ordI l) (L.length - 1) 1 L))] := by
  refine ACall.enter tok false Try.func56 rfl rfl rfl (AW_sound (ip := false) tok _ _ _ _ ?_)
  conv => whnf
  rw [wu64 (by omega) (by omega)]
  refine ACall.frame [] [] rfl (args' := [.i .u64 L.length]) (Hc := []) rfl rfl (len_spec L.length (by omega)) ?_
  rintro r H ⟨v, rfl, rfl⟩
  refine ⟨.inl rfl, ?_⟩
  conv => whnf
  refine ACall.mono (pdq_spec l hok L hL hp c v) ?_
  rintro r H ⟨rfl, rfl⟩
  conv => whnf
  exact ⟨rfl, rfl⟩
end Go.AK
