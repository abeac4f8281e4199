import Derived.Test.YtmhagleekhihoaaAK19
import Derived.Below
import Derived.WideShapes
namespace Go.AK
open Go Go.RowKit
set_option linter.unusedVariables false
section
variable {P : Program} {T : TT}
/-- A law's call, from its spec. -/
theorem ACall.top {f : Nat} {args : Array Value} {W : World} {xs : List AV} (h : ACall P f xs [] fun r H => r = .ret (.b true) ∧ H = []) (hv : VRL (E0 W) xs args.toList) :
    Calls P f args W fun e W' => e = .returned (.bool true) ∧ Below W.heap.size W W' :=
  Calls.mono (h.run (E0 W) W args (Rel.start W) hv) fun e W' ⟨r, E', H', he, hR, ⟨hr, hH⟩, hm⟩ => by
    subst hr
    cases e with
    | returned v => exact ⟨by rw [show v = .bool true from hm], ⟨he.os, he.tape, he.output, he.size, fun k hk => he.keep k hk fun j x hx => by simp [E0] at hx⟩⟩
    | panicked c => exact hm.elim
    | outgrown => exact hm.elim
theorem vr_slice {E : Env} {x : AV} {a : Option Addr} {l c : Nat} (h : VRL E [x] (Value.slice a l c).cells.toList) : VR E x (.slice a l c) := by
  obtain ⟨v, h1, h2⟩ := vrl_one h
  have : [Value.slice a l c] = [v] := h1
  cases this; exact h2
theorem vr_agg {E : Env} {xs : List AV} {cs : Array Value} (h : VRL E xs (Value.agg cs).cells.toList) : VR E (.agg xs) (.agg cs) := ⟨cs, rfl, h⟩
/-- A row of whole numbers that comes in. -/
theorem WTs_ints {n e : Nat} {k : IntKind} (h : ∀ ys, WT T n e ys → ∃ m, ys = [.i k m] ∧ (Lit.int k m).wf = true) : ∀ (m : Nat) (cs : List AV), WTs (WT T n) (List.replicate m e) cs → ∃ L : List Int, cs = nums k L ∧ L.length = m ∧ ∀ x ∈ L, (Lit.int k x).wf = true
  | 0, cs, hc => ⟨[], (show cs = [] from hc), rfl, fun x hx => by cases hx⟩
  | m + 1, cs, hc => by
    rw [List.replicate_succ] at hc
    obtain ⟨ys, zs, rfl, h1, h2⟩ := hc
    obtain ⟨x, rfl, hx⟩ := h ys h1
    obtain ⟨L, rfl, hl, hL⟩ := WTs_ints h m zs h2
    refine ⟨x :: L, rfl, by simp [hl], fun y hy => ?_⟩
    rcases List.mem_cons.1 hy with rfl | hy
    · exact hx
    · exact hL y hy
end
end Go.AK
