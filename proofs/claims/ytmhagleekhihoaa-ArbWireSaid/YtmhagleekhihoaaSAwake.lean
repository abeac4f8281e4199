import Derived.Test.YtmhagleekhihoaaSRef3B
namespace Go.AK
open Go Go.RowKit Go.Proofs
set_option linter.unusedVariables false
set_option maxRecDepth 100000
/-- Why frames may not begin at once, as a number. -/
def chkF (l : List Fr) : Int := if (l.all fun F => decide F.may) = true then (if ((List.range l.length).any fun i => (l.take i).any fun G => (at_ l i).rival G) = true then 23 else 0) else 14
theorem ChkR.eq {l : List Fr} {v : Int} (h : ChkR l v) : v = chkF l := by
  unfold chkF
  have ha : (∀ F ∈ l, F.may) → (l.all fun F => decide F.may) = true := fun h => List.all_eq_true.2 fun F hF => decide_eq_true (h F hF)
  rcases h with ⟨rfl, F, hF, hn⟩ | ⟨rfl, hm, i, hi, hr⟩ | ⟨rfl, hm, hr⟩
  · rw [if_neg]
    intro h2
    exact hn (of_decide_eq_true (List.all_eq_true.1 h2 F hF))
  · rw [if_pos (ha hm), if_pos]
    exact List.any_eq_true.2 ⟨i, List.mem_range.2 hi, by rw [at_get l i hi]; exact hr⟩
  · rw [if_pos (ha hm), if_neg]
    intro h2
    obtain ⟨i, hi, h3⟩ := List.any_eq_true.1 h2
    have hi := List.mem_range.1 hi
    rw [at_get l i hi, hr i hi] at h3; cases h3
def frOf (id : Int) (ext : Bool) : Fr := ⟨id, ext, false, 0, 0, 0, 0, 0, 0, 0, 0, 0⟩
theorem frOf_ok (id : Int) (ext : Bool) (h : -9223372036854775808 ≤ id ∧ id ≤ 9223372036854775807) : (frOf id ext).ok :=
  ⟨h, by show (-9223372036854775808 : Int) ≤ 0 ∧ (0 : Int) ≤ 9223372036854775807; omega, fun x hx => by
    have : x ∈ List.replicate 8 (0 : Int) := hx
    rw [(List.mem_replicate.1 this).2]; omega⟩
theorem awake_spec : ACall Try.prog 31 [] [] fun r H => r = .ret (.b true) ∧ H = [] := by
  refine ACall.gh ?_
  refine ACall.enter tok false Try.func31 rfl rfl rfl (AW_sound (ip := false) tok _ _ _ _ ?_)
  have okA := frOf_ok 291 false (by omega)
  have okB := frOf_ok 290 false (by omega)
  have okC := frOf_ok 5 false (by omega)
  have okD := frOf_ok 1310720 true (by omega)
  conv => whnf
  refine ⟨by show 12 ≤ (12 : Nat); omega, ?_⟩
  conv => whnf
  refine ⟨by show 12 ≤ (12 : Nat); omega, ?_⟩
  conv => whnf
  refine ⟨by show 12 ≤ (12 : Nat); omega, ?_⟩
  conv => whnf
  refine ⟨by show 12 ≤ (12 : Nat); omega, ?_⟩
  conv => whnf
  refine ACall.frame [] [4] rfl (args' := [.rs (frs [frOf 291 false, frOf 290 false]) 0 12 2]) (Hc := []) rfl rfl (winner_spec [frOf 291 false, frOf 290 false] (by decide) (fun X hX => ?_)) ?_
  · rcases List.mem_cons.1 hX with rfl | hX
    · exact okA
    · rw [List.mem_singleton.1 hX]; exact okB
  rintro r H (⟨h, _⟩ | ⟨_, v, hv, rfl, rfl⟩)
  · cases h
  rw [hv.eq]
  rw [show chkF [frOf 291 false, frOf 290 false] = 0 from by kernel_rfl]
  rw [if_pos rfl, show (ordL [frOf 291 false, frOf 290 false]).getD 0 0 = 1 from by kernel_rfl]
  refine ⟨.inr ⟨rfl, rfl⟩, ?_⟩
  conv => whnf
  refine ACall.frame [] [] rfl (args' := [(frOf 291 false).av, (frOf 290 false).av]) (Hc := []) rfl rfl (loses_spec _ _ okA okB) ?_
  rintro r H ⟨v, hv, rfl, rfl⟩
  rw [hv.eq, show chkF [frOf 291 false, frOf 290 false] = 0 from by kernel_rfl, if_pos rfl, show losesL (frOf 291 false).row (frOf 290 false).row 0 = 10 from by kernel_rfl]
  refine ⟨.inl rfl, ?_⟩
  conv => whnf
  refine ACall.frame [] [] rfl (args' := [(frOf 1310720 true).av, (frOf 5 false).av]) (Hc := []) rfl rfl (loses_spec _ _ okD okC) ?_
  rintro r H ⟨v, hv, rfl, rfl⟩
  rw [hv.eq, show chkF [frOf 1310720 true, frOf 5 false] = 0 from by kernel_rfl, if_pos rfl, show losesL (frOf 1310720 true).row (frOf 5 false).row 0 = 11 from by kernel_rfl]
  refine ⟨.inl rfl, ?_⟩
  conv => whnf
  refine ACall.frame [] [] rfl (args' := [(frOf 5 false).av, (frOf 1310720 true).av]) (Hc := []) rfl rfl (loses_spec _ _ okC okD) ?_
  rintro r H ⟨v, hv, rfl, rfl⟩
  rw [hv.eq, show chkF [frOf 5 false, frOf 1310720 true] = 0 from by kernel_rfl, if_pos rfl, show losesL (frOf 5 false).row (frOf 1310720 true).row 0 = -1 from by kernel_rfl]
  refine ⟨.inl rfl, ?_⟩
  conv => whnf
  refine ACall.frame [] [5] rfl (args' := [.rs (ints [1, 0, 1]) 0 1 3]) (Hc := []) rfl rfl (wired_spec [1, 0, 1] (by decide)) ?_
  rintro r H ⟨rfl, rfl⟩
  rw [show (if (0 : Int) ∈ ([1, 0, 1] : List Int) then (0 : Int) else 1) = 0 from rfl]
  refine ⟨.inr ⟨rfl, rfl⟩, ?_⟩
  conv => whnf
  exact GhR.sel [] rfl (GhR.of ⟨rfl, rfl⟩)
end Go.AK
