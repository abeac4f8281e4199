/- Proves Rows.ExprBlanksCardSaid: for every input the law ExprBlanks returns true, and each argument reads behind the call as before. No condition beyond the statement's own. -/
import Derived.Test.YtgedgleipefinaaDoorRows
import Derived.Test.YtgedgleipefinaaDoorMS7
import Derived.Test.YtgedgleipefinaaDoorTie
import Derived.Test.YtgedgleipefinaaDoorCards
import Derived.WalkKit
import Derived.ProofKit
import Derived.OpenShut
import Derived.ShutString
import Derived.ChangeOld
import Derived.Below
import Derived.SizedLaws
import Derived.LaidMore
import Derived.Handed
import Derived.LaidLaws
import Derived.MakeChecks
import Derived.Stop.LaidErr
import Derived.Stop.Joined
import Derived.Lib.LaidTab
import Derived.SevenTiedAt
namespace Go.Proofs.YtgedgleipefinaaDoor.exprBlanks
open Go.ChangeShapes Go.WideShapes Go.ChangeAt Go.RowKit Go.AK
open Go.ChangeMaps (open_string shut_string)
set_option linter.unusedVariables false
theorem own : ownKnob Tryd.prog.godebug = none := by kernel_rfl
theorem laidOut : laidOutB Tryd.prog = true := by kernel_rfl
def laidL : List (String × DataW Unit) := [("math/bits.deBruijn32tab", Rows.laid_math_bits_deBruijn32tab), ("math/bits.deBruijn64tab", Rows.laid_math_bits_deBruijn64tab), ("internal/strconv.uint64pow10", Rows.laid_internal_strconv_uint64pow10), ("strconv.ErrRange", Rows.laid_strconv_ErrRange), ("strconv.ErrSyntax", Rows.laid_strconv_ErrSyntax)]
theorem door_met (os : Os) (args : Array Value) : laidMetH Tryd.prog laidL ((World.doorLaid Tryd.prog 62 os).forCall (fun _ _ => 0) ⟨#[], args, []⟩).memory :=
  laidMetH_of_parts3 (fuel := 8) (laidMet_of_run' 8 (by kernel_rfl) (by kernel_rfl)) (by kernel_rfl) (by kernel_rfl)
theorem var_heap {P : Program} {W : World} {n : String} {g : Nat} {cs : Array Value} (hg : P.globalNamed n = some g) (h : W.var? P n = some cs) : ∃ t z, W.heap[g]? = some (.cells cs t z) := by
  unfold World.var? at h
  rw [hg, Option.bind_some] at h
  split at h
  · rename_i c t z hc
    cases h
    exact ⟨t, z, hc⟩
  · cases h
theorem globs {W : World} (h : laidMetH Tryd.prog laidL W) : @Globs.ok theGlobs fun g => W.heap[g]? := by
  rw [MakeChecks.laidMetH_plain _ _ _ (by kernel_rfl)] at h
  have hg1 : Tryd.prog.globalNamed "internal/strconv.uint64pow10" = some 0 := by kernel_rfl
  have hg2 : Tryd.prog.globalNamed "strconv.ErrRange" = some 4 := by kernel_rfl
  have hg3 : Tryd.prog.globalNamed "strconv.ErrSyntax" = some 3 := by kernel_rfl
  have star : "*" ++ "errors.errorString" = "*errors.errorString" := by decide
  have row : ∀ u, Tryd.prog.typeName? 3 u = some "*errors.errorString" → u = 134 := fun u h =>
    typeName_ptr_named (nm := "errors.errorString") (by rw [star]; kernel_rfl) (by kernel_rfl) (by decide) u (by rw [star]; exact h)
  have h1 := Lib.tabIs_of_head (k := .u64) (zs := Lib.pow10Tab) hg1 (t := 110) (by kernel_rfl) (n := 20) (e := 98) (by kernel_rfl) (by kernel_rfl) (by kernel_rfl) (by kernel_rfl) h.tail.tail
  obtain ⟨a2, s2, h2, -, -, -⟩ := laid_sentinel h.tail.tail.tail hg2 (ti := 104) (tp := 134) (te := 136) (ts := 9) (by kernel_rfl) Tryd.underlying104 row Tryd.underlying134 Tryd.underlying136 rfl rfl Tryd.underlying9 (by kernel_rfl) (by kernel_rfl)
  obtain ⟨a3, s3, h3, -, -, -⟩ := laid_sentinel h.tail.tail.tail.tail hg3 (ti := 104) (tp := 134) (te := 136) (ts := 9) (by kernel_rfl) Tryd.underlying104 row Tryd.underlying134 Tryd.underlying136 rfl rfl Tryd.underlying9 (by kernel_rfl) (by kernel_rfl)
  obtain ⟨t1, z1, k1⟩ := var_heap hg1 h1
  obtain ⟨t2, z2, k2⟩ := var_heap hg2 h2
  obtain ⟨t3, z3, k3⟩ := var_heap hg3 h3
  exact ⟨⟨t1, z1, k1⟩, ⟨_, _, t3, z3, k3⟩, ⟨_, _, t2, z2, k2⟩⟩
set_option maxRecDepth 100000 in
theorem lifted (os : Os) (started : os.Started) (H : Type) (enc : TypeId × Value → H) :
    ReturnsInHanded {} Tryd.checked os 6 .any (fun w args => (Rows.exprBlanksSpec.pre enc Tryd.prog Tryd.f6 Rows.exprBlanksRow.domain false w args ∧ laidMetH Tryd.prog laidL w) ∧ sizedMet enc Tryd.prog Tryd.f6 (OpenSpec.ofChange Rows.exprBlanksSpec) false w args) (Rows.exprBlanksSpec.post enc Tryd.prog Tryd.f6 false true false false) := by
  refine returnsInHanded_of_change_and (C := Tryd.checked) (X := fun w _ => laidMetH Tryd.prog laidL w) (fun _ _ _ hh h => h.of_heap hh) own started (by kernel_rfl) Tryd.func6
    (ChangeSpec.witness_shaped (enc := enc) (C := Tryd.checked) (os := os) (X := fun w _ => laidMetH Tryd.prog laidL w) false (World.doorLaid Tryd.prog 62 os) #[.slice none 0 0, .agg #[.int .i64 0, .int .i64 0], .int .i64 0] 8 rfl (World.shaped_of_RefB (by kernel_rfl) (by kernel_rfl)) (by kernel_rfl) (by kernel_rfl) (by kernel_rfl) (door_met os _)) ?_
  intro W base args ds gs before hval0 hW hcnd hsz0 hL _
  have hsz : (DataW.weightsEach Tryd.prog (Tryd.f6.params.toList ++ Rows.exprBlanksSpec.plain.varTypes Tryd.prog) (ds ++ gs)).all (· ≤ reachBytes) = true := hsz0
  have hval : ∀ (j : Nat) t v, Tryd.f6.params[j]? = some t → args[j]? = some v → Value.okWide Tryd.prog W .any base t v := hval0
  have hW' := hW
  obtain ⟨p, q, hA0, hV, rfl, hfz, hnd⟩ := hW
  have hA : DataW.TrodAll enc Tryd.prog W 0 (fun _ => true) true Tryd.f6.params.toList args.toList ds p := hA0
  rw [Tryd.params6] at hA hval hsz
  obtain ⟨v0, vs0, d0, ds0, p0, q0, hargs, rfl, rfl, h0, r0⟩ := trodAll_cons hA
  obtain ⟨v1, vs1, d1, ds1, p1, q1, rfl, rfl, rfl, h1, r1⟩ := trodAll_cons r0
  obtain ⟨v2, vs2, d2, ds2, p2, q2, rfl, rfl, rfl, h2, r2⟩ := trodAll_cons r1
  obtain ⟨rfl, rfl, rfl⟩ := trodAll_nil r2
  obtain rfl : args = #[v0, v1, v2] := by cases args; simp_all
  obtain ⟨rfl, rfl⟩ := trodVars_none hV
  have k0 := h0
  have lt0 : ∀ x ∈ p0, x.block < W.heap.size := by obtain ⟨m, hm⟩ := k0; exact DataW.trod_lt m _ _ _ hm
  obtain ⟨fu0, hf0⟩ := h0
  obtain ⟨a0, len0, cap0, rfl⟩ := okWide_slice Tryd.underlying33 (hval 0 33 v0 rfl rfl)
  obtain ⟨xs0, x0, y0, _⟩ := opened tok fu0 33 _ _ (okT_nods fu0) hf0
  obtain ⟨l0, rfl, m0, w0⟩ := WT_nods y0
  have k1 := h1
  have lt1 : ∀ x ∈ p1, x.block < W.heap.size := by obtain ⟨m, hm⟩ := k1; exact DataW.trod_lt m _ _ _ hm
  obtain ⟨fu1, hf1⟩ := h1
  obtain ⟨cs1, rfl, _⟩ := okWide_array Tryd.underlying47 (hval 1 47 v1 rfl rfl)
  obtain ⟨xs1, x1, y1, _⟩ := opened tok fu1 47 _ _ (okT_i2 fu1) hf1
  obtain ⟨F1, rfl, w1⟩ := WT_i2 y1
  obtain ⟨a2, rfl, rfl, rfl, w2⟩ := open_int Tryd.underlying3 (hval 2 3 v2 rfl rfl) h2
  refine Calls.mono (ACall.top (exprBlanks_top l0 m0 w0 F1 w1 a2 (i64_in w2)) (args := #[_, _, _]) (W := W) (globs hL) ⟨_, _, rfl, (vr_slice x0), ⟨_, _, rfl, (vr_agg x1), ⟨_, _, rfl, (rfl : VR _ (.i .i64 a2) _), rfl⟩⟩⟩ ⟨Tryd.f6, Tryd.func6, rfl, rfl⟩) fun e W' ⟨he, bel⟩ => ?_
  subst he
  exact ⟨_, rfl, _, _, _, [], _, [], hW', trodAll_mk1 (shut_bool Tryd.underlying4 _), (trodAll_cons_mk (Below.trod laidOut (by kernel_rfl) (of_decide_eq_true (by kernel_rfl)) k0 bel lt0) (trodAll_cons_mk (Below.trod laidOut (by kernel_rfl) (of_decide_eq_true (by kernel_rfl)) k1 bel lt1) (trodAll_cons_mk (shut_int Tryd.underlying3 w2) trodAll_mk0))), rfl, bel.frame _, fun h => by cases h⟩
theorem over : Rows.exprBlanksRow.holds Tryd.pinned (OpenSpec.ofChange Rows.exprBlanksSpec) :=
  OpenClaim.holds_of_wide 6 Tryd.f6 rfl rfl rfl rfl rfl rfl rfl ⟨rfl, rfl, rfl, rfl, rfl⟩ rfl rfl rfl rfl rfl (by kernel_rfl) Tryd.func6 (by kernel_rfl)
    (of_decide_eq_true (by kernel_rfl)) (by unfold Func.isWrapper; first | (rw [if_pos (by decide +kernel)]; kernel_rfl) | (rw [if_neg (by decide +kernel)]; exact ⟨rfl, rfl⟩))
    (fun os started H enc _ => lifted os started H enc)
theorem proved : Rows.ExprBlanksSaid := over
set_option maxRecDepth 100000 in
theorem card_holds : Rows.ExprBlanksCardSaid :=
  Claim7.holds_tied_plain_at .later [] [.data, .data, .data, .sentinel, .sentinel] true (true, "6d02501e6899d6f81755b9cff425ea1a8eb80059ea4f41de3ae62ba578c48976") true
    over (fun _ h => by cases h) (by kernel_rfl) (fun _ h => by cases h) exprBlanks_row_tie rfl ⟨rfl, rfl⟩ (by kernel_rfl) rfl
    (fun f fn hf hfn => by
      obtain rfl : f = 6 := Option.some.inj ((show Tryd.prog.funcNamed "magneto/magnetolaw20.ExprBlanks" = some 6 by kernel_rfl).symm.trans hf) |>.symm
      obtain rfl : fn = Tryd.f6 := (Option.some.inj (Tryd.func6.symm.trans hfn)).symm
      exact ⟨by kernel_rfl, fun j t ht => by
        rw [Tryd.params6] at ht
        have hm : t ∈ [33, 47, 3] := by simpa using Array.mem_of_getElem? ht
        have hall : ([33, 47, 3].all fun u => !Tryd.prog.wantsStandIn u) = true := by kernel_rfl
        exact (show Tryd.prog.wantsStandIn t = false by simpa using List.all_eq_true.1 hall t hm)⟩)
    (by kernel_rfl)
#print axioms card_holds
end Go.Proofs.YtgedgleipefinaaDoor.exprBlanks
namespace Go.Proofs.YtgedgleipefinaaDoor
theorem exprBlanks_holds : Rows.ExprBlanksCardSaid := exprBlanks.card_holds
end Go.Proofs.YtgedgleipefinaaDoor
