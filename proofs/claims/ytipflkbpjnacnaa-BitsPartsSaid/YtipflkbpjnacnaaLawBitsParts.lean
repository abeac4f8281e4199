/- The row of magneto/magnetolaw01.BitsParts, out of its pure statement and the walk. Conditions: none. -/
import Derived.Test.YtipflkbpjnacnaaV
import Derived.Test.YtipflkbpjnacnaaRows
import Derived.Test.YtipflkbpjnacnaaRBitsParts
import Derived.Test.YtipflkbpjnacnaaPureBitsParts
import Derived.WalkKit
import Derived.ProofKit
import Derived.OpenShut
import Derived.ShutString
import Derived.ChangeOld
import Derived.Below
import Derived.SizedLaws
namespace Go.Proofs.Ytipflkbpjnacnaa.bitsParts
open Go.ChangeShapes Go.WideShapes Go.ChangeAt Go.RowKit Go.Proofs.YtipflkbpjnacnaaW.PrintWords Go.Proofs.Ytipflkbpjnacnaa.Rowx
open Go.ChangeMaps (open_string shut_string)
set_option linter.unusedVariables false
theorem own : ownKnob Try.prog.godebug = none := by kernel_rfl
theorem laidOut : laidOutB Try.prog = true := by kernel_rfl
set_option maxRecDepth 100000 in
theorem lifted (os : Os) (started : os.Started) (H : Type) (enc : TypeId × Value → H) :
  ReturnsInHanded {} Try.checked os 17 .any (Rows.bitsPartsSpec.pre6 enc Try.prog Try.f17 Rows.bitsPartsRow.domain false) (Rows.bitsPartsSpec.post enc Try.prog Try.f17 false true false false) := by
 refine returnsInHanded_of_change_sized (C := Try.checked) own started (by kernel_rfl) Try.func17
  (ChangeSpec.witness6 (enc := enc) (C := Try.checked) false ⟨#[], #[.agg #[.slice none 0 0, .slice none 0 0]], []⟩ 8 (by kernel_rfl) (by kernel_rfl) (by kernel_rfl) (by kernel_rfl)) ?_
 intro W base args ds gs before hval0 hW hcnd hsz0 _
 have hval : ∀ (j : Nat) t v, Try.f17.params[j]? = some t → args[j]? = some v → Value.okWide Try.prog W .any base t v := hval0
 have hsz : (DataW.weightsEach Try.prog (Try.f17.params.toList ++ Rows.bitsPartsSpec.plain.varTypes Try.prog) (ds ++ gs)).all (· ≤ reachBytes) = true := hsz0
 have hW' := hW
 obtain ⟨p, q, hA0, hV, rfl, hfz, hnd⟩ := hW
 have hA : DataW.TrodAll enc Try.prog W 0 (fun _ => true) true Try.f17.params.toList args.toList ds p := hA0
 rw [Try.params17] at hA hval hsz
 obtain ⟨v0, vs0, d0, ds0, p0, q0, hargs, rfl, rfl, h0, r0⟩ := trodAll_cons hA
 obtain ⟨rfl, rfl, rfl⟩ := trodAll_nil r0
 obtain rfl : args = #[v0] := by cases args; simp_all
 obtain ⟨rfl, rfl⟩ := trodVars_none hV
 have k0 := h0
 have lt0 : ∀ x ∈ p0, x.block < W.heap.size := by obtain ⟨m, hm⟩ := k0; exact DataW.trod_lt m _ _ _ hm
 obtain ⟨a0_0, len0_0, cap0_0, z0_0, a0_1, len0_1, cap0_1, z0_1, rfl, w0_0, w0_1⟩ := open_two_rows Try.underlying23 Try.underlying22 Try.underlying3 (by kernel_rfl) (by kernel_rfl) (by kernel_rfl) (hval 0 23 v0 rfl rfl) h0
 obtain ⟨l0_0, rfl, hr0_0, hm0_0, hw0_0, hc0_0⟩ := ReadsInt.ofRowC w0_0
 obtain ⟨l0_1, rfl, hr0_1, hm0_1, hw0_1, hc0_1⟩ := ReadsInt.ofRowC w0_1
 obtain ⟨k, hP⟩ := Pure.BitsParts l0_0 l0_1 hm0_0 hw0_0 hm0_1 hw0_1
 clear hA0 hval0 hsz0 hsz
 refine (PA.magnetolaw01_BitsParts.calls k _ _ l0_0 _ _ l0_1 true W (Kd.C_of_reads (d := (0 : Int)) (h1 := fun _ => rfl) hr0_0) hc0_0 (Kd.C_of_reads (d := (0 : Int)) (h1 := fun _ => rfl) hr0_1) hc0_1 hP).mono fun e W' ⟨he, bel⟩ => ?_
 subst he
 exact ⟨_, rfl, _, _, _, [], _, [], hW', trodAll_mk1 (shut_bool Try.underlying4 _), (trodAll_cons_mk (Below.trod laidOut (by kernel_rfl) (of_decide_eq_true (by kernel_rfl)) k0 bel lt0) trodAll_mk0), rfl, bel.frame _, fun h => by cases h⟩
theorem over : Rows.bitsPartsRow.holds Try.pinned (OpenSpec.ofChange Rows.bitsPartsSpec) :=
 OpenClaim.holds_of_wide 17 Try.f17 rfl rfl rfl rfl rfl rfl rfl ⟨rfl, rfl, rfl, rfl, rfl⟩ rfl rfl rfl rfl rfl (by kernel_rfl) Try.func17 (by kernel_rfl)
  (of_decide_eq_true (by kernel_rfl)) (by unfold Func.isWrapper; first | (rw [if_pos (by decide +kernel)]; kernel_rfl) | (rw [if_neg (by decide +kernel)]; exact ⟨rfl, rfl⟩))
  (fun os started H enc _ => lifted os started H enc)
theorem proved : Rows.BitsPartsSaid := over
#print axioms proved
end Go.Proofs.Ytipflkbpjnacnaa.bitsParts
namespace Go.Proofs.Ytipflkbpjnacnaa
/-- The row, under a short name, for the claim. -/
theorem bitsParts_holds : Rows.BitsPartsSaid := bitsParts.proved
end Go.Proofs.Ytipflkbpjnacnaa
