/- Proves Rows.ExprDeepCardSaid: for every input the law ExprDeep returns true, and each argument reads behind the call as before. No condition beyond the statement's own. -/
import Derived.Test.YtgedgleipefinaaDoorRows
import Derived.Test.YtgedgleipefinaaDoorMS5
import Derived.Test.YtgedgleipefinaaDoorTie
import Derived.Test.YtgedgleipefinaaDoorCards
import Derived.WalkKit
import Derived.ProofKit
import Derived.OpenShut
import Derived.ShutString
import Derived.ChangeOld
import Derived.Below
import Derived.SizedLaws
import Derived.LaidMore
import Derived.Handed
import Derived.LaidLaws
import Derived.MakeChecks
import Derived.Stop.LaidErr
import Derived.Stop.Joined
import Derived.Lib.LaidTab
import Derived.SevenTiedAt
namespace Go.Proofs.YtgedgleipefinaaDoor.exprDeep
open Go.ChangeShapes Go.WideShapes Go.ChangeAt Go.RowKit Go.AK
open Go.ChangeMaps (open_string shut_string)
set_option linter.unusedVariables false
theorem own : ownKnob Tryd.prog.godebug = none := by kernel_rfl
theorem laidOut : laidOutB Tryd.prog = true := by kernel_rfl
def laidL : List (String × DataW Unit) := [("math/bits.deBruijn32tab", Rows.laid_math_bits_deBruijn32tab), ("math/bits.deBruijn64tab", Rows.laid_math_bits_deBruijn64tab), ("internal/strconv.uint64pow10", Rows.laid_internal_strconv_uint64pow10), ("strconv.ErrRange", Rows.laid_strconv_ErrRange), ("strconv.ErrSyntax", Rows.laid_strconv_ErrSyntax)]
theorem door_met (os : Os) (args : Array Value) : laidMetH Tryd.prog laidL ((World.doorLaid Tryd.prog 62 os).forCall (fun _ _ => 0) ⟨#[], args, []⟩).memory :=
  laidMetH_of_parts3 (fuel := 8) (laidMet_of_run' 8 (by kernel_rfl) (by kernel_rfl)) (by kernel_rfl) (by kernel_rfl)
theorem var_heap {P : Program} {W : World} {n : String} {g : Nat} {cs : Array Value} (hg : P.globalNamed n = some g) (h : W.var? P n = some cs) : ∃ t z, W.heap[g]? = some (.cells cs t z) := by
  unfold World.var? at h
  rw [hg, Option.bind_some] at h
  split at h
  · rename_i c t z hc
    cases h
    exact ⟨t, z, hc⟩
  · cases h
theorem globs {W : World} (h : laidMetH Tryd.prog laidL W) : @Globs.ok theGlobs fun g => W.heap[g]? := by
  rw [MakeChecks.laidMetH_plain _ _ _ (by kernel_rfl)] at h
  have hg1 : Tryd.prog.globalNamed "internal/strconv.uint64pow10" = some 0 := by kernel_rfl
  have hg2 : Tryd.prog.globalNamed "strconv.ErrRange" = some 4 := by kernel_rfl
  have hg3 : Tryd.prog.globalNamed "strconv.ErrSyntax" = some 3 := by kernel_rfl
  have star : "*" ++ "errors.errorString" = "*errors.errorString" := by decide
  have row : ∀ u, Tryd.prog.typeName? 3 u = some "*errors.errorString" → u = 134 := fun u h =>
    typeName_ptr_named (nm := "errors.errorString") (by rw [star]; kernel_rfl) (by kernel_rfl) (by decide) u (by rw [star]; exact h)
  have h1 := Lib.tabIs_of_head (k := .u64) (zs := Lib.pow10Tab) hg1 (t := 110) (by kernel_rfl) (n := 20) (e := 98) (by kernel_rfl) (by kernel_rfl) (by kernel_rfl) (by kernel_rfl) h.tail.tail
  obtain ⟨a2, s2, h2, -, -, -⟩ := laid_sentinel h.tail.tail.tail hg2 (ti := 104) (tp := 134) (te := 136) (ts := 9) (by kernel_rfl) Tryd.underlying104 row Tryd.underlying134 Tryd.underlying136 rfl rfl Tryd.underlying9 (by kernel_rfl) (by kernel_rfl)
  obtain ⟨a3, s3, h3, -, -, -⟩ := laid_sentinel h.tail.tail.tail.tail hg3 (ti := 104) (tp := 134) (te := 136) (ts := 9) (by kernel_rfl) Tryd.underlying104 row Tryd.underlying134 Tryd.underlying136 rfl rfl Tryd.underlying9 (by kernel_rfl) (by kernel_rfl)
  obtain ⟨t1, z1, k1⟩ := var_heap hg1 h1
  obtain ⟨t2, z2, k2⟩ := var_heap hg2 h2
  obtain ⟨t3, z3, k3⟩ := var_heap hg3 h3
  exact ⟨⟨t1, z1, k1⟩, ⟨_, _, t3, z3, k3⟩, ⟨_, _, t2, z2, k2⟩⟩
set_option maxRecDepth 100000 in
theorem lifted (os : Os) (started : os.Started) (H : Type) (enc : TypeId × Value → H) :
    ReturnsInHanded {} Tryd.checked os 8 .any (fun w args => (Rows.exprDeepSpec.pre enc Tryd.prog Tryd.f8 Rows.exprDeepRow.domain false w args ∧ laidMetH Tryd.prog laidL w) ∧ sizedMet enc Tryd.prog Tryd.f8 (OpenSpec.ofChange Rows.exprDeepSpec) false w args) (Rows.exprDeepSpec.post enc Tryd.prog Tryd.f8 false true false false) := by
  refine returnsInHanded_of_change_and (C := Tryd.checked) (X := fun w _ => laidMetH Tryd.prog laidL w) (fun _ _ _ hh h => h.of_heap hh) own started (by kernel_rfl) Tryd.func8
    (ChangeSpec.witness_shaped (enc := enc) (C := Tryd.checked) (os := os) (X := fun w _ => laidMetH Tryd.prog laidL w) false (World.doorLaid Tryd.prog 62 os) #[.int .i64 0, .int .i64 0] 8 rfl (World.shaped_of_RefB (by kernel_rfl) (by kernel_rfl)) (by kernel_rfl) (by kernel_rfl) (by kernel_rfl) (door_met os _)) ?_
  intro W base args ds gs before hval0 hW hcnd hsz0 hL _
  have hsz : (DataW.weightsEach Tryd.prog (Tryd.f8.params.toList ++ Rows.exprDeepSpec.plain.varTypes Tryd.prog) (ds ++ gs)).all (· ≤ reachBytes) = true := hsz0
  have hval : ∀ (j : Nat) t v, Tryd.f8.params[j]? = some t → args[j]? = some v → Value.okWide Tryd.prog W .any base t v := hval0
  have hW' := hW
  obtain ⟨p, q, hA0, hV, rfl, hfz, hnd⟩ := hW
  have hA : DataW.TrodAll enc Tryd.prog W 0 (fun _ => true) true Tryd.f8.params.toList args.toList ds p := hA0
  rw [Tryd.params8] at hA hval hsz
  obtain ⟨v0, vs0, d0, ds0, p0, q0, hargs, rfl, rfl, h0, r0⟩ := trodAll_cons hA
  obtain ⟨v1, vs1, d1, ds1, p1, q1, rfl, rfl, rfl, h1, r1⟩ := trodAll_cons r0
  obtain ⟨rfl, rfl, rfl⟩ := trodAll_nil r1
  obtain rfl : args = #[v0, v1] := by cases args; simp_all
  obtain ⟨rfl, rfl⟩ := trodVars_none hV
  obtain ⟨a0, rfl, rfl, rfl, w0⟩ := open_int Tryd.underlying3 (hval 0 3 v0 rfl rfl) h0
  obtain ⟨a1, rfl, rfl, rfl, w1⟩ := open_int Tryd.underlying3 (hval 1 3 v1 rfl rfl) h1
  refine Calls.mono (ACall.top (exprDeep_top a0 (i64_in w0) a1 (i64_in w1)) (args := #[_, _]) (W := W) (globs hL) ⟨_, _, rfl, (rfl : VR _ (.i .i64 a0) _), ⟨_, _, rfl, (rfl : VR _ (.i .i64 a1) _), rfl⟩⟩ ⟨Tryd.f8, Tryd.func8, rfl, rfl⟩) fun e W' ⟨he, bel⟩ => ?_
  subst he
  exact ⟨_, rfl, _, _, _, [], _, [], hW', trodAll_mk1 (shut_bool Tryd.underlying4 _), (trodAll_cons_mk (shut_int Tryd.underlying3 w0) (trodAll_cons_mk (shut_int Tryd.underlying3 w1) trodAll_mk0)), rfl, bel.frame _, fun h => by cases h⟩
theorem over : Rows.exprDeepRow.holds Tryd.pinned (OpenSpec.ofChange Rows.exprDeepSpec) :=
  OpenClaim.holds_of_wide 8 Tryd.f8 rfl rfl rfl rfl rfl rfl rfl ⟨rfl, rfl, rfl, rfl, rfl⟩ rfl rfl rfl rfl rfl (by kernel_rfl) Tryd.func8 (by kernel_rfl)
    (of_decide_eq_true (by kernel_rfl)) (by unfold Func.isWrapper; first | (rw [if_pos (by decide +kernel)]; kernel_rfl) | (rw [if_neg (by decide +kernel)]; exact ⟨rfl, rfl⟩))
    (fun os started H enc _ => lifted os started H enc)
theorem proved : Rows.ExprDeepSaid := over
set_option maxRecDepth 100000 in
theorem card_holds : Rows.ExprDeepCardSaid :=
  Claim7.holds_tied_plain_at .later [] [.data, .data, .data, .sentinel, .sentinel] true (true, "6d02501e6899d6f81755b9cff425ea1a8eb80059ea4f41de3ae62ba578c48976") true
    over (fun _ h => by cases h) (by kernel_rfl) (fun _ h => by cases h) exprDeep_row_tie rfl ⟨rfl, rfl⟩ (by kernel_rfl) rfl
    (fun f fn hf hfn => by
      obtain rfl : f = 8 := Option.some.inj ((show Tryd.prog.funcNamed "magneto/magnetolaw20.ExprDeep" = some 8 by kernel_rfl).symm.trans hf) |>.symm
      obtain rfl : fn = Tryd.f8 := (Option.some.inj (Tryd.func8.symm.trans hfn)).symm
      exact ⟨by kernel_rfl, fun j t ht => by
        rw [Tryd.params8] at ht
        have hm : t ∈ [3, 3] := by simpa using Array.mem_of_getElem? ht
        have hall : ([3, 3].all fun u => !Tryd.prog.wantsStandIn u) = true := by kernel_rfl
        exact (show Tryd.prog.wantsStandIn t = false by simpa using List.all_eq_true.1 hall t hm)⟩)
    (by kernel_rfl)
#print axioms card_holds
end Go.Proofs.YtgedgleipefinaaDoor.exprDeep
namespace Go.Proofs.YtgedgleipefinaaDoor
theorem exprDeep_holds : Rows.ExprDeepCardSaid := exprDeep.card_holds
end Go.Proofs.YtgedgleipefinaaDoor
