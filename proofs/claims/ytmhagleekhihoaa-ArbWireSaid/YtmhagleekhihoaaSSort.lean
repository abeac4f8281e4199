import Derived.Test.YtmhagleekhihoaaSLoses
namespace Go.AK
open Go Go.RowKit Go.Proofs
set_option linter.unusedVariables false
set_option maxRecDepth 100000
def frD : Fr := ⟨0, false, false, 0, 0, 0, 0, 0, 0, 0, 0, 0⟩
def at_ (l : List Fr) (i : Int) : Fr := l.getD i.toNat frD
def ordI (l : List Fr) (i k : Int) : Int := if (at_ l i).less (at_ l k) = true then -1 else if (at_ l k).less (at_ l i) = true then 1 else 0
theorem at_get (l : List Fr) (i : Nat) (h : i < l.length) : at_ l i = l[i] := by simp [at_, h]
theorem orderFn_spec (l : List Fr) (hok : ∀ F ∈ l, F.ok) (i k : Nat) (hi : i < l.length) (hk : k < l.length) :
    ACall Try.prog 57 [.i .i64 i, .i .i64 k, .p (some (0, 0))] [.c [.rs (frs l) 0 12 l.length]] fun r H => r = .ret (.i .i64 (ordI l i k)) ∧ H = [.c [.rs (frs l) 0 12 l.length]] := by
  refine ACall.gh ?_
  refine ACall.enter tok false Try.func57 rfl rfl rfl (AW_sound (ip := false) tok _ _ _ _ ?_)
  conv => whnf
  unfold ordI
  rw [at_get l i hi, at_get l k hk]
  refine ADraw.of tok mixed false [0, 1, 2, 3, 4, 5, 6, 7] [8, 9] (by kernel_rfl) (fun _ _ _ _ h => h) ?_
  conv => whnf
  refine ⟨⟨by omega, by omega⟩, ?_⟩
  conv => whnf
  refine aget_fr (k := i) (by omega) hi ?_
  conv => whnf
  refine ⟨⟨by omega, by omega⟩, ?_⟩
  conv => whnf
  refine aget_fr (k := k) (by omega) hk ?_
  conv => whnf
  refine ACall.frame [] [] rfl (args' := [l[i].av, l[k].av]) (Hc := []) rfl rfl (less_spec l[i] l[k] (hok _ (List.getElem_mem _)) (hok _ (List.getElem_mem _))) ?_
  rintro r H ⟨rfl, rfl⟩
  refine ⟨.inl rfl, ?_⟩
  conv => whnf
  cases he : l[i].less l[k]
  · conv => whnf
    refine ADraw.of tok mixed false [0, 1, 2, 3, 4, 5, 6, 7] [8, 9] (by kernel_rfl) (fun _ _ _ _ h => h) ?_
    conv => whnf
    refine ⟨⟨by omega, by omega⟩, ?_⟩
    conv => whnf
    refine aget_fr (k := k) (by omega) hk ?_
    conv => whnf
    refine ⟨⟨by omega, by omega⟩, ?_⟩
    conv => whnf
    refine aget_fr (k := i) (by omega) hi ?_
    conv => whnf
    refine ACall.frame [] [] rfl (args' := [l[k].av, l[i].av]) (Hc := []) rfl rfl (less_spec l[k] l[i] (hok _ (List.getElem_mem _)) (hok _ (List.getElem_mem _))) ?_
    rintro r H ⟨rfl, rfl⟩
    refine ⟨.inl rfl, ?_⟩
    conv => whnf
    cases he2 : l[k].less l[i]
    · conv => whnf
      exact GhR.of ⟨rfl, rfl⟩
    · conv => whnf
      exact GhR.of ⟨rfl, rfl⟩
  · conv => whnf
    exact GhR.of ⟨rfl, rfl⟩
end Go.AK
