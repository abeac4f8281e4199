import Derived.Test.YtmhagleekhihoaaSBits
import Derived.Test.YtmhagleekhihoaaAK20
namespace Go.AK
open Go Go.RowKit Go.Proofs
set_option linter.unusedVariables false
set_option maxRecDepth 100000
theorem okT_ints : ∀ fuel, okT T fuel 50 = true
  | 0 => rfl
  | 1 => rfl
  | n + 2 => rfl
theorem WT_i64 : ∀ {n : Nat} {ys : List AV}, WT T n 3 ys → ∃ m, ys = [.i .i64 m] ∧ (Lit.int .i64 m).wf = true
  | 0, _, h => h.elim
  | n + 1, ys, h => h
theorem WT_ints : ∀ {fuel : Nat} {xs : List AV}, WT T fuel 50 xs → ∃ L : List Int, xs = [.rs (ints L) 0 1 L.length] ∧ L.length ≤ maxLen ∧ ∀ x ∈ L, (Lit.int .i64 x).wf = true
  | 0, _, h => h.elim
  | n + 1, xs, h => by
    obtain ⟨m, cs, hx, hm, hc⟩ := (show ∃ m cs, xs = [AV.rs cs 0 1 m] ∧ m ≤ maxLen ∧ WTs (WT T n) (List.replicate m 3) cs from h)
    obtain ⟨L, hL, hl, hw⟩ := WTs_ints (fun ys => WT_i64) m cs hc
    subst hL
    exact ⟨L, by rw [hx, hl], by omega, hw⟩
end Go.AK
