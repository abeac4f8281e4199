/- The row of magneto/magnetolaw02.Crc15Turns, out of its pure statement and the walk. Conditions: none. -/
import Derived.Test.YtipflkbpjnacnaaV
import Derived.Test.YtipflkbpjnacnaaRows
import Derived.Test.YtipflkbpjnacnaaRCrc15Turns
import Derived.Test.YtipflkbpjnacnaaPureCrc15Turns
import Derived.WalkKit
import Derived.ProofKit
import Derived.OpenShut
import Derived.ShutString
import Derived.ChangeOld
import Derived.Below
import Derived.SizedLaws
namespace Go.Proofs.Ytipflkbpjnacnaa.crc15Turns
open Go.ChangeShapes Go.WideShapes Go.ChangeAt Go.RowKit Go.Proofs.YtipflkbpjnacnaaW.PrintWords Go.Proofs.Ytipflkbpjnacnaa.Rowx
open Go.ChangeMaps (open_string shut_string)
set_option linter.unusedVariables false
theorem own : ownKnob Try.prog.godebug = none := by kernel_rfl
theorem laidOut : laidOutB Try.prog = true := by kernel_rfl
set_option maxRecDepth 100000 in
theorem lifted (os : Os) (started : os.Started) (H : Type) (enc : TypeId × Value → H) :
  ReturnsInHanded {} Try.checked os 14 .any (Rows.crc15TurnsSpec.pre6 enc Try.prog Try.f14 Rows.crc15TurnsRow.domain false) (Rows.crc15TurnsSpec.post enc Try.prog Try.f14 false true false false) := by
 refine returnsInHanded_of_change_sized (C := Try.checked) own started (by kernel_rfl) Try.func14
  (ChangeSpec.witness6 (enc := enc) (C := Try.checked) false ⟨#[], #[.slice none 0 0, .int .i64 0, .agg #[.bool false, .bool false, .bool false, .bool false, .bool false, .bool false, .bool false, .bool false, .bool false, .bool false, .bool false, .bool false, .bool false, .bool false, .bool false]], []⟩ 8 (by kernel_rfl) (by kernel_rfl) (by kernel_rfl) (by kernel_rfl)) ?_
 intro W base args ds gs before hval0 hW hcnd hsz0 _
 have hval : ∀ (j : Nat) t v, Try.f14.params[j]? = some t → args[j]? = some v → Value.okWide Try.prog W .any base t v := hval0
 have hsz : (DataW.weightsEach Try.prog (Try.f14.params.toList ++ Rows.crc15TurnsSpec.plain.varTypes Try.prog) (ds ++ gs)).all (· ≤ reachBytes) = true := hsz0
 have hW' := hW
 obtain ⟨p, q, hA0, hV, rfl, hfz, hnd⟩ := hW
 have hA : DataW.TrodAll enc Try.prog W 0 (fun _ => true) true Try.f14.params.toList args.toList ds p := hA0
 rw [Try.params14] at hA hval hsz
 obtain ⟨v0, vs0, d0, ds0, p0, q0, hargs, rfl, rfl, h0, r0⟩ := trodAll_cons hA
 obtain ⟨v1, vs1, d1, ds1, p1, q1, rfl, rfl, rfl, h1, r1⟩ := trodAll_cons r0
 obtain ⟨v2, vs2, d2, ds2, p2, q2, rfl, rfl, rfl, h2, r2⟩ := trodAll_cons r1
 obtain ⟨rfl, rfl, rfl⟩ := trodAll_nil r2
 obtain rfl : args = #[v0, v1, v2] := by cases args; simp_all
 obtain ⟨rfl, rfl⟩ := trodVars_none hV
 have k0 := h0
 have lt0 : ∀ x ∈ p0, x.block < W.heap.size := by obtain ⟨m, hm⟩ := k0; exact DataW.trod_lt m _ _ _ hm
 obtain ⟨a0, len0, cap0, rfl⟩ := okWide_slice Try.underlying22 (hval 0 22 v0 rfl rfl)
 obtain ⟨z0, w0⟩ : ∃ zs, IsRow .i64 W a0 len0 cap0 zs := by
  obtain ⟨fuel, hf⟩ := h0
  obtain ⟨a, len, cap, zs, e, hr⟩ := isRow_of (c := .slice a0 len0 cap0) Try.underlying22 Try.underlying3 (by kernel_rfl) hf
  injection e with e1 e2 e3
  subst e1 e2 e3
  exact ⟨zs, hr⟩
 obtain ⟨a1, rfl, rfl, rfl, w1⟩ := open_int Try.underlying3 (hval 1 3 v1 rfl rfl) h1
 have k2 := h2
 have lt2 : ∀ x ∈ p2, x.block < W.heap.size := by obtain ⟨m, hm⟩ := k2; exact DataW.trod_lt m _ _ _ hm
 obtain ⟨bs2, hbs2, rfl⟩ := open_bools Try.underlying59 Try.underlying4 (by kernel_rfl) (by kernel_rfl) (hval 2 59 v2 rfl rfl) h2
 obtain ⟨a2_0, c2_0, rfl, e2_0⟩ := cons_of hbs2
 obtain ⟨a2_1, c2_1, rfl, e2_1⟩ := cons_of e2_0
 obtain ⟨a2_2, c2_2, rfl, e2_2⟩ := cons_of e2_1
 obtain ⟨a2_3, c2_3, rfl, e2_3⟩ := cons_of e2_2
 obtain ⟨a2_4, c2_4, rfl, e2_4⟩ := cons_of e2_3
 obtain ⟨a2_5, c2_5, rfl, e2_5⟩ := cons_of e2_4
 obtain ⟨a2_6, c2_6, rfl, e2_6⟩ := cons_of e2_5
 obtain ⟨a2_7, c2_7, rfl, e2_7⟩ := cons_of e2_6
 obtain ⟨a2_8, c2_8, rfl, e2_8⟩ := cons_of e2_7
 obtain ⟨a2_9, c2_9, rfl, e2_9⟩ := cons_of e2_8
 obtain ⟨a2_10, c2_10, rfl, e2_10⟩ := cons_of e2_9
 obtain ⟨a2_11, c2_11, rfl, e2_11⟩ := cons_of e2_10
 obtain ⟨a2_12, c2_12, rfl, e2_12⟩ := cons_of e2_11
 obtain ⟨a2_13, c2_13, rfl, e2_13⟩ := cons_of e2_12
 obtain ⟨a2_14, c2_14, rfl, e2_14⟩ := cons_of e2_13
 obtain rfl := List.eq_nil_of_length_eq_zero e2_14
 obtain ⟨l0, rfl, hr0, hm0, hw0, hc0⟩ := ReadsInt.ofRowC w0
 obtain ⟨k, hP⟩ := Pure.Crc15Turns l0 a1 a2_0 a2_1 a2_2 a2_3 a2_4 a2_5 a2_6 a2_7 a2_8 a2_9 a2_10 a2_11 a2_12 a2_13 a2_14 hm0 hw0 w1
 clear hA0 hval0 hsz0 hsz
 refine (PA.magnetolaw02_Crc15Turns.calls k _ _ l0 a1 a2_0 a2_1 a2_2 a2_3 a2_4 a2_5 a2_6 a2_7 a2_8 a2_9 a2_10 a2_11 a2_12 a2_13 a2_14 true W (Kd.C_of_reads (d := (0 : Int)) (h1 := fun _ => rfl) hr0) hc0 hP).mono fun e W' ⟨he, bel⟩ => ?_
 subst he
 exact ⟨_, rfl, _, _, _, [], _, [], hW', trodAll_mk1 (shut_bool Try.underlying4 _), (trodAll_cons_mk (Below.trod laidOut (by kernel_rfl) (of_decide_eq_true (by kernel_rfl)) k0 bel lt0) (trodAll_cons_mk (shut_int Try.underlying3 w1) (trodAll_cons_mk (Below.trod laidOut (by kernel_rfl) (of_decide_eq_true (by kernel_rfl)) k2 bel lt2) trodAll_mk0))), rfl, bel.frame _, fun h => by cases h⟩
theorem over : Rows.crc15TurnsRow.holds Try.pinned (OpenSpec.ofChange Rows.crc15TurnsSpec) :=
 OpenClaim.holds_of_wide 14 Try.f14 rfl rfl rfl rfl rfl rfl rfl ⟨rfl, rfl, rfl, rfl, rfl⟩ rfl rfl rfl rfl rfl (by kernel_rfl) Try.func14 (by kernel_rfl)
  (of_decide_eq_true (by kernel_rfl)) (by unfold Func.isWrapper; first | (rw [if_pos (by decide +kernel)]; kernel_rfl) | (rw [if_neg (by decide +kernel)]; exact ⟨rfl, rfl⟩))
  (fun os started H enc _ => lifted os started H enc)
theorem proved : Rows.Crc15TurnsSaid := over
#print axioms proved
end Go.Proofs.Ytipflkbpjnacnaa.crc15Turns
namespace Go.Proofs.Ytipflkbpjnacnaa
/-- The row, under a short name, for the claim. -/
theorem crc15Turns_holds : Rows.Crc15TurnsSaid := crc15Turns.proved
end Go.Proofs.Ytipflkbpjnacnaa
