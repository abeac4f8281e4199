/- Texts SEText, SETextQ, SEMod, SERun, SENext, SENum, SEPp, SEOpd, SETree, SETreeQ, SETop: an evaluator of the model's code, proved sound, and what the program's functions do, for all inputs. -/
import Derived.Test.YtgedgleipefinaaDoorMS3
import Derived.Lib.AtoiAllCases
set_option linter.unusedVariables false
set_option linter.unusedSimpArgs false
set_option linter.unusedSectionVars false
namespace Go.AK
open Go Go.RowKit Go.Proofs
set_option linter.unusedVariables false
set_option maxRecDepth 100000
def textOK (x : Ex) : Prop := ∀ c : Int, ACall Tryd.prog 33 [x.av, .i .i64 c] [] fun r0 H => r0 = .ret (.s (sb (x.txt c))) ∧ H = []
theorem text_3 (w o : Str) (n : Int) (l r : Ex) (hl : ∀ c, (l.txt c).length ≤ 1000000000000) (hr : ∀ c, (r.txt c).length ≤ 1000000000000) (ihl : textOK l) (ihr : textOK r) (hln : l.isNil = false) (hrn : r.isNil = false) : textOK (.nd 3 w o n l r) := by
  intro c
  have h1 := hl 1
  have h2 := hr 2
  refine ACall.enter tok false Tryd.func33 rfl rfl rfl (AW_sound (ip := false) tok _ _ _ _ ?_)
  conv => whnf
  refine ACall.mono (binds_spec 3) ?_; rintro r0 H ⟨rfl, rfl⟩
  conv => whnf
  refine ADraw.tree tok mixed false [3, 10] [0, 1, 2, 3, 4, 7, 8, 9, 10, 11, 12] (.node (.cons 5 (.node (.cons 6 (.node (.cons 13 (.node (.cons 14 (.node (.cons 15 (.node .nil) .nil)) .nil)) .nil)) (.cons 13 (.node (.cons 6 (.node (.cons 14 (.node (.cons 15 (.node .nil) .nil)) .nil)) .nil)) .nil))) .nil)) (by kernel_rfl) (fun _ _ _ _ h => h) ?_
  conv => whnf
  refine ACall.mono (ihl 1) ?_; rintro r0 H ⟨rfl, rfl⟩
  conv => whnf
  refine And.intro ?_ (And.intro ?_ trivial)
  · conv => whnf
    refine ⟨by rw [sb_size]; show _ + 4 ≤ _; omega, ?_⟩
    conv => whnf
    refine ACall.mono (ihr 2) ?_; rintro r0 H ⟨rfl, rfl⟩
    conv => whnf
    refine ⟨by simp only [ByteArray.size_append, sb_size]; show _ + 4 + _ ≤ _; omega, ?_⟩
    conv => whnf
    (
    by_cases hc : bindsI 3 < c
    · (refine acond_t (decide_eq_true hc) ?_; conv => whnf)
      refine ⟨?_, ?_⟩
      · simp only [ByteArray.size_append, sb_size]; show 1 + (_ + 4 + _) ≤ _; omega
      conv => whnf
      refine ⟨?_, ?_⟩
      · simp only [ByteArray.size_append, sb_size]; show 1 + (_ + 4 + _) + 1 ≤ _; omega
      conv => whnf
      refine ⟨congrArg (fun z => ARes.ret (AV.s z)) ?_, rfl⟩
      show sb [40] ++ (sb (l.txt 1) ++ sb wOrS ++ sb (r.txt 2)) ++ sb [41] = _
      simp only [sb_append, Ex.txt, hc, decide_true, around, if_true, List.append_assoc]
      rfl
    · (refine acond_f (decide_eq_false hc) ?_; conv => whnf)
      refine ⟨congrArg (fun z => ARes.ret (AV.s z)) ?_, rfl⟩
      show sb (l.txt 1) ++ sb wOrS ++ sb (r.txt 2) = _
      simp only [sb_append, Ex.txt, hc, decide_false, around, if_true, List.append_assoc]
      rfl)
  · conv => whnf
    refine ACall.mono (ihr 2) ?_; rintro r0 H ⟨rfl, rfl⟩
    conv => whnf
    refine ⟨by rw [sb_size]; show _ + 4 ≤ _; omega, ?_⟩
    conv => whnf
    refine ⟨by simp only [ByteArray.size_append, sb_size]; show _ + 4 + _ ≤ _; omega, ?_⟩
    conv => whnf
    (
    by_cases hc : bindsI 3 < c
    · (refine acond_t (decide_eq_true hc) ?_; conv => whnf)
      refine ⟨?_, ?_⟩
      · simp only [ByteArray.size_append, sb_size]; show 1 + (_ + 4 + _) ≤ _; omega
      conv => whnf
      refine ⟨?_, ?_⟩
      · simp only [ByteArray.size_append, sb_size]; show 1 + (_ + 4 + _) + 1 ≤ _; omega
      conv => whnf
      refine ⟨congrArg (fun z => ARes.ret (AV.s z)) ?_, rfl⟩
      show sb [40] ++ (sb (l.txt 1) ++ sb wOrS ++ sb (r.txt 2)) ++ sb [41] = _
      simp only [sb_append, Ex.txt, hc, decide_true, around, if_true, List.append_assoc]
      rfl
    · (refine acond_f (decide_eq_false hc) ?_; conv => whnf)
      refine ⟨congrArg (fun z => ARes.ret (AV.s z)) ?_, rfl⟩
      show sb (l.txt 1) ++ sb wOrS ++ sb (r.txt 2) = _
      simp only [sb_append, Ex.txt, hc, decide_false, around, if_true, List.append_assoc]
      rfl)
theorem text_2 (w o : Str) (n : Int) (l r : Ex) (hl : ∀ c, (l.txt c).length ≤ 1000000000000) (hr : ∀ c, (r.txt c).length ≤ 1000000000000) (ihl : textOK l) (ihr : textOK r) (hln : l.isNil = false) (hrn : r.isNil = false) : textOK (.nd 2 w o n l r) := by
  intro c
  have h1 := hl 2
  have h2 := hr 3
  refine ACall.enter tok false Tryd.func33 rfl rfl rfl (AW_sound (ip := false) tok _ _ _ _ ?_)
  conv => whnf
  refine ACall.mono (binds_spec 2) ?_; rintro r0 H ⟨rfl, rfl⟩
  conv => whnf
  refine ADraw.tree tok mixed false [3, 10] [0, 1, 2, 3, 4, 7, 8, 9, 10, 11, 12] (.node (.cons 5 (.node (.cons 6 (.node (.cons 13 (.node (.cons 14 (.node (.cons 15 (.node .nil) .nil)) .nil)) .nil)) (.cons 13 (.node (.cons 6 (.node (.cons 14 (.node (.cons 15 (.node .nil) .nil)) .nil)) .nil)) .nil))) .nil)) (by kernel_rfl) (fun _ _ _ _ h => h) ?_
  conv => whnf
  refine ACall.mono (ihl 2) ?_; rintro r0 H ⟨rfl, rfl⟩
  conv => whnf
  refine And.intro ?_ (And.intro ?_ trivial)
  · conv => whnf
    refine ⟨by rw [sb_size]; show _ + 5 ≤ _; omega, ?_⟩
    conv => whnf
    refine ACall.mono (ihr 3) ?_; rintro r0 H ⟨rfl, rfl⟩
    conv => whnf
    refine ⟨by simp only [ByteArray.size_append, sb_size]; show _ + 5 + _ ≤ _; omega, ?_⟩
    conv => whnf
    (
    by_cases hc : bindsI 2 < c
    · (refine acond_t (decide_eq_true hc) ?_; conv => whnf)
      refine ⟨?_, ?_⟩
      · simp only [ByteArray.size_append, sb_size]; show 1 + (_ + 5 + _) ≤ _; omega
      conv => whnf
      refine ⟨?_, ?_⟩
      · simp only [ByteArray.size_append, sb_size]; show 1 + (_ + 5 + _) + 1 ≤ _; omega
      conv => whnf
      refine ⟨congrArg (fun z => ARes.ret (AV.s z)) ?_, rfl⟩
      show sb [40] ++ (sb (l.txt 2) ++ sb wAndS ++ sb (r.txt 3)) ++ sb [41] = _
      simp only [sb_append, Ex.txt, hc, decide_true, around, if_true, if_neg (show ¬ (2 : Int) = 3 by decide), List.append_assoc]
      rfl
    · (refine acond_f (decide_eq_false hc) ?_; conv => whnf)
      refine ⟨congrArg (fun z => ARes.ret (AV.s z)) ?_, rfl⟩
      show sb (l.txt 2) ++ sb wAndS ++ sb (r.txt 3) = _
      simp only [sb_append, Ex.txt, hc, decide_false, around, if_true, if_neg (show ¬ (2 : Int) = 3 by decide), List.append_assoc]
      rfl)
  · conv => whnf
    refine ACall.mono (ihr 3) ?_; rintro r0 H ⟨rfl, rfl⟩
    conv => whnf
    refine ⟨by rw [sb_size]; show _ + 5 ≤ _; omega, ?_⟩
    conv => whnf
    refine ⟨by simp only [ByteArray.size_append, sb_size]; show _ + 5 + _ ≤ _; omega, ?_⟩
    conv => whnf
    (
    by_cases hc : bindsI 2 < c
    · (refine acond_t (decide_eq_true hc) ?_; conv => whnf)
      refine ⟨?_, ?_⟩
      · simp only [ByteArray.size_append, sb_size]; show 1 + (_ + 5 + _) ≤ _; omega
      conv => whnf
      refine ⟨?_, ?_⟩
      · simp only [ByteArray.size_append, sb_size]; show 1 + (_ + 5 + _) + 1 ≤ _; omega
      conv => whnf
      refine ⟨congrArg (fun z => ARes.ret (AV.s z)) ?_, rfl⟩
      show sb [40] ++ (sb (l.txt 2) ++ sb wAndS ++ sb (r.txt 3)) ++ sb [41] = _
      simp only [sb_append, Ex.txt, hc, decide_true, around, if_true, if_neg (show ¬ (2 : Int) = 3 by decide), List.append_assoc]
      rfl
    · (refine acond_f (decide_eq_false hc) ?_; conv => whnf)
      refine ⟨congrArg (fun z => ARes.ret (AV.s z)) ?_, rfl⟩
      show sb (l.txt 2) ++ sb wAndS ++ sb (r.txt 3) = _
      simp only [sb_append, Ex.txt, hc, decide_false, around, if_true, if_neg (show ¬ (2 : Int) = 3 by decide), List.append_assoc]
      rfl)
theorem text_1 (w o : Str) (n : Int) (l r : Ex) (hl : ∀ c, (l.txt c).length ≤ 1000000000000) (ihl : textOK l) : textOK (.nd 1 w o n l r) := by
  intro c
  have h1 := hl 3
  refine ACall.enter tok false Tryd.func33 rfl rfl rfl (AW_sound (ip := false) tok _ _ _ _ ?_)
  conv => whnf
  refine ACall.mono (binds_spec 1) ?_; rintro r0 H ⟨rfl, rfl⟩
  conv => whnf
  refine ACall.mono (ihl 3) ?_; rintro r0 H ⟨rfl, rfl⟩
  conv => whnf
  refine ⟨by rw [sb_size]; show 4 + _ ≤ _; omega, ?_⟩
  conv => whnf
  by_cases hc : bindsI 1 < c
  · (refine acond_t (decide_eq_true hc) ?_; conv => whnf)
    refine ⟨?_, ?_⟩
    · simp only [ByteArray.size_append, sb_size]; show 1 + (4 + _) ≤ _; omega
    conv => whnf
    refine ⟨?_, ?_⟩
    · simp only [ByteArray.size_append, sb_size]; show 1 + (4 + _) + 1 ≤ _; omega
    conv => whnf
    refine ⟨congrArg (fun z => ARes.ret (AV.s z)) ?_, rfl⟩
    show sb [40] ++ (sb wNotS ++ sb (l.txt 3)) ++ sb [41] = _
    simp only [sb_append, Ex.txt, hc, decide_true, around, if_true, if_neg (show ¬ (1 : Int) = 3 by decide), if_neg (show ¬ (1 : Int) = 2 by decide), List.append_assoc]
    rfl
  · (refine acond_f (decide_eq_false hc) ?_; conv => whnf)
    refine ⟨congrArg (fun z => ARes.ret (AV.s z)) ?_, rfl⟩
    show sb wNotS ++ sb (l.txt 3) = _
    simp only [sb_append, Ex.txt, hc, decide_false, around, if_true, if_neg (show ¬ (1 : Int) = 3 by decide), if_neg (show ¬ (1 : Int) = 2 by decide), List.append_assoc]
    rfl
theorem text_4 (w o : Str) (n : Int) (l r : Ex) (hw : w.length ≤ 1000000000000) (ho : o.length ≤ 1000000000000) (hn : -9223372036854775808 ≤ n ∧ n ≤ 9223372036854775807) : textOK (.nd 4 w o n l r) := by
  intro c
  have hi := itoa_len n hn.1 hn.2
  refine ACall.enter tok false Tryd.func33 rfl rfl rfl (AW_sound (ip := false) tok _ _ _ _ ?_)
  conv => whnf
  refine ACall.mono (binds_spec 4) ?_; rintro r0 H ⟨rfl, rfl⟩
  conv => whnf
  refine ADraw.ofS tok mixed false [3, 8, 14] [0, 1, 2, 3, 4, 5, 6, 7, 8, 9, 10, 11, 12, 13, 14] [15, 16, 17] (by kernel_rfl) (fun _ _ _ _ h => h) ?_
  conv => whnf
  refine ⟨by rw [sb_size]; show _ + 1 ≤ _; omega, ?_⟩
  conv => whnf
  refine ⟨by simp only [ByteArray.size_append, sb_size]; show _ + 1 + _ ≤ _; omega, ?_⟩
  conv => whnf
  refine ⟨by simp only [ByteArray.size_append, sb_size]; show _ + 1 + _ + 1 ≤ _; omega, ?_⟩
  conv => whnf
  refine ACall.mono (itoa_spec n hn.1 hn.2 []) ?_; rintro r0 H ⟨rfl, rfl⟩
  conv => whnf
  refine ⟨by simp only [ByteArray.size_append, sb_size]; show _ + 1 + _ + 1 + (sb (Lib.itoa n)).size ≤ _; rw [sb_size]; omega, ?_⟩
  conv => whnf
  by_cases hc : bindsI 4 < c
  · (refine acond_t (decide_eq_true hc) ?_; conv => whnf)
    refine ⟨by simp only [ByteArray.size_append, sb_size]; show 1 + (_ + 1 + _ + 1 + (sb (Lib.itoa n)).size) ≤ _; rw [sb_size]; omega, ?_⟩
    conv => whnf
    refine ⟨by simp only [ByteArray.size_append, sb_size]; show 1 + (_ + 1 + _ + 1 + (sb (Lib.itoa n)).size) + 1 ≤ _; rw [sb_size]; omega, ?_⟩
    conv => whnf
    refine ⟨congrArg (fun z => ARes.ret (AV.s z)) ?_, rfl⟩
    show sb [40] ++ (sb w ++ sb [32] ++ sb o ++ sb [32] ++ sb (Lib.itoa n)) ++ sb [41] = _
    simp only [sb_append, Ex.txt, hc, decide_true, around, if_true, if_neg (show ¬ (4 : Int) = 3 by decide), if_neg (show ¬ (4 : Int) = 2 by decide), if_neg (show ¬ (4 : Int) = 1 by decide), List.append_assoc]
    rfl
  · (refine acond_f (decide_eq_false hc) ?_; conv => whnf)
    refine ⟨congrArg (fun z => ARes.ret (AV.s z)) ?_, rfl⟩
    show sb w ++ sb [32] ++ sb o ++ sb [32] ++ sb (Lib.itoa n) = _
    simp only [sb_append, Ex.txt, hc, decide_false, around, if_true, if_neg (show ¬ (4 : Int) = 3 by decide), if_neg (show ¬ (4 : Int) = 2 by decide), if_neg (show ¬ (4 : Int) = 1 by decide), List.append_assoc]
    rfl
theorem text_5 (w o : Str) (n : Int) (l r : Ex) (hw : w.length ≤ 1000000000000) : textOK (.nd 5 w o n l r) := by
  intro c
  refine ACall.enter tok false Tryd.func33 rfl rfl rfl (AW_sound (ip := false) tok _ _ _ _ ?_)
  conv => whnf
  refine ACall.mono (binds_spec 5) ?_; rintro r0 H ⟨rfl, rfl⟩
  conv => whnf
  by_cases hc : bindsI 5 < c
  · (refine acond_t (decide_eq_true hc) ?_; conv => whnf)
    refine ⟨by simp only [ByteArray.size_append, sb_size]; show 1 + _ ≤ _; omega, ?_⟩
    conv => whnf
    refine ⟨by simp only [ByteArray.size_append, sb_size]; show 1 + _ + 1 ≤ _; omega, ?_⟩
    conv => whnf
    refine ⟨congrArg (fun z => ARes.ret (AV.s z)) ?_, rfl⟩
    show sb [40] ++ (sb w) ++ sb [41] = _
    simp only [sb_append, Ex.txt, hc, decide_true, around, if_true, if_neg (show ¬ (5 : Int) = 3 by decide), if_neg (show ¬ (5 : Int) = 2 by decide), if_neg (show ¬ (5 : Int) = 1 by decide), if_neg (show ¬ (5 : Int) = 4 by decide), List.append_assoc]
    rfl
  · (refine acond_f (decide_eq_false hc) ?_; conv => whnf)
    refine ⟨congrArg (fun z => ARes.ret (AV.s z)) ?_, rfl⟩
    show sb w = _
    simp only [sb_append, Ex.txt, hc, decide_false, around, if_true, if_neg (show ¬ (5 : Int) = 3 by decide), if_neg (show ¬ (5 : Int) = 2 by decide), if_neg (show ¬ (5 : Int) = 1 by decide), if_neg (show ¬ (5 : Int) = 4 by decide), List.append_assoc]
    rfl
theorem text_6 (w o : Str) (n : Int) (l r : Ex) : textOK (.nd 6 w o n l r) := by
  intro c
  refine ACall.enter tok false Tryd.func33 rfl rfl rfl (AW_sound (ip := false) tok _ _ _ _ ?_)
  conv => whnf
  refine ACall.mono (binds_spec 6) ?_; rintro r0 H ⟨rfl, rfl⟩
  conv => whnf
  refine ACall.mono (formatBool_spec true []) ?_; rintro r0 H ⟨rfl, rfl⟩
  conv => whnf
  by_cases hc : bindsI 6 < c
  · (refine acond_t (decide_eq_true hc) ?_; conv => whnf)
    refine ⟨by decide, ?_⟩
    conv => whnf
    refine ⟨by decide, ?_⟩
    conv => whnf
    refine ⟨congrArg (fun z => ARes.ret (AV.s z)) ?_, rfl⟩
    simp only [Ex.txt, hc, decide_true, around, if_true, if_neg (show ¬ (6 : Int) = 3 by decide), if_neg (show ¬ (6 : Int) = 2 by decide), if_neg (show ¬ (6 : Int) = 1 by decide), if_neg (show ¬ (6 : Int) = 4 by decide), if_neg (show ¬ (6 : Int) = 5 by decide)]
    rfl
  · (refine acond_f (decide_eq_false hc) ?_; conv => whnf)
    refine ⟨congrArg (fun z => ARes.ret (AV.s z)) ?_, rfl⟩
    simp only [Ex.txt, hc, decide_false, around, if_neg (show ¬ (6 : Int) = 3 by decide), if_neg (show ¬ (6 : Int) = 2 by decide), if_neg (show ¬ (6 : Int) = 1 by decide), if_neg (show ¬ (6 : Int) = 4 by decide), if_neg (show ¬ (6 : Int) = 5 by decide)]
    rfl
theorem text_7 (w o : Str) (n : Int) (l r : Ex) : textOK (.nd 7 w o n l r) := by
  intro c
  refine ACall.enter tok false Tryd.func33 rfl rfl rfl (AW_sound (ip := false) tok _ _ _ _ ?_)
  conv => whnf
  refine ACall.mono (binds_spec 7) ?_; rintro r0 H ⟨rfl, rfl⟩
  conv => whnf
  refine ACall.mono (formatBool_spec false []) ?_; rintro r0 H ⟨rfl, rfl⟩
  conv => whnf
  by_cases hc : bindsI 7 < c
  · (refine acond_t (decide_eq_true hc) ?_; conv => whnf)
    refine ⟨by decide, ?_⟩
    conv => whnf
    refine ⟨by decide, ?_⟩
    conv => whnf
    refine ⟨congrArg (fun z => ARes.ret (AV.s z)) ?_, rfl⟩
    simp only [Ex.txt, hc, decide_true, around, if_true, if_neg (show ¬ (7 : Int) = 3 by decide), if_neg (show ¬ (7 : Int) = 2 by decide), if_neg (show ¬ (7 : Int) = 1 by decide), if_neg (show ¬ (7 : Int) = 4 by decide), if_neg (show ¬ (7 : Int) = 5 by decide), if_neg (show ¬ (7 : Int) = 6 by decide)]
    rfl
  · (refine acond_f (decide_eq_false hc) ?_; conv => whnf)
    refine ⟨congrArg (fun z => ARes.ret (AV.s z)) ?_, rfl⟩
    simp only [Ex.txt, hc, decide_false, around, if_neg (show ¬ (7 : Int) = 3 by decide), if_neg (show ¬ (7 : Int) = 2 by decide), if_neg (show ¬ (7 : Int) = 1 by decide), if_neg (show ¬ (7 : Int) = 4 by decide), if_neg (show ¬ (7 : Int) = 5 by decide), if_neg (show ¬ (7 : Int) = 6 by decide)]
    rfl
end Go.AK
namespace Go.AK
open Go Go.RowKit Go.Proofs
set_option linter.unusedVariables false
set_option maxRecDepth 100000
/-- A right expression. -/
inductive GT : Ex → Prop where
  | not (l : Ex) : GT l → GT (.nd 1 [] [] 0 l .nil)
  | and (l r : Ex) : GT l → GT r → GT (.nd 2 [] [] 0 l r)
  | or (l r : Ex) : GT l → GT r → GT (.nd 3 [] [] 0 l r)
  | cmp (w o : Str) (n : Int) : numbersL.contains w = true → opsL.contains o = true → 0 ≤ n → GT (.nd 4 w o n .nil .nil)
  | flag (w : Str) : flagsL.contains w = true → GT (.nd 5 w [] 0 .nil .nil)
  | tru : GT (.nd 6 [] [] 0 .nil .nil)
  | fls : GT (.nd 7 [] [] 0 .nil .nil)
theorem nil_of {x : Ex} (h : x.isNil = true) : x = .nil := by cases x <;> first | rfl | exact nomatch h
theorem GT.ne {x : Ex} (h : GT x) : x.isNil = false := by cases h <;> rfl
theorem GT_of : ∀ (x : Ex), x.treeE = 0 → x.isNil = false → GT x
  | .nil, _, h => nomatch h
  | .nd k w o n l r, h, _ => by
    rw [Ex.treeE] at h
    have hn : nodeE k w o n (!l.isNil) (!r.isNil) = 0 := by
      split at h
      · assumption
      · exact h
    rw [if_pos hn] at h
    have hl : l.treeE = 0 := by
      split at h
      · assumption
      · exact h
    rw [if_pos hl] at h
    have il := GT_of l hl
    have ir := GT_of r h
    unfold nodeE at hn
    split at hn
    · rename_i hk
      split at hn
      · rename_i hc
        obtain ⟨rfl, rfl, rfl, h1, h2⟩ := hc
        have h1 : l.isNil = false := by simpa using h1
        have h2 : r.isNil = false := by simpa using h2
        rcases hk with rfl | rfl
        · exact .and l r (il h1) (ir h2)
        · exact .or l r (il h1) (ir h2)
      · exact absurd hn (by decide)
    split at hn
    · rename_i hk
      split at hn
      · rename_i hc
        obtain ⟨rfl, rfl, rfl, h1, h2⟩ := hc
        have h1 : l.isNil = false := by simpa using h1
        have h2 : r = .nil := nil_of (by simpa using h2)
        subst hk; subst h2
        exact .not l (il h1)
      · exact absurd hn (by decide)
    split at hn
    · rename_i hk
      split at hn
      · rename_i hc
        obtain ⟨rfl, rfl, rfl, h1, h2⟩ := hc
        have h1 : l = .nil := nil_of (by simpa using h1)
        have h2 : r = .nil := nil_of (by simpa using h2)
        subst h1; subst h2
        rcases hk with rfl | rfl
        · exact .tru
        · exact .fls
      · exact absurd hn (by decide)
    split at hn
    · rename_i hk
      split at hn
      · rename_i hc
        obtain ⟨rfl, rfl, h1, h2⟩ := hc
        have h1 : l = .nil := nil_of (by simpa using h1)
        have h2 : r = .nil := nil_of (by simpa using h2)
        subst h1; subst h2; subst hk
        split at hn
        · rename_i hw; exact .flag w hw
        · exact absurd hn (by decide)
      · exact absurd hn (by decide)
    split at hn
    · rename_i hk
      split at hn
      · rename_i hc
        obtain ⟨h1, h2⟩ := hc
        have h1 : l = .nil := nil_of (by simpa using h1)
        have h2 : r = .nil := nil_of (by simpa using h2)
        subst h1; subst h2; subst hk
        split at hn
        · rename_i hw
          split at hn
          · rename_i ho
            split at hn
            · exact absurd hn (by decide)
            · exact .cmp w o n hw ho (by omega)
          · exact absurd hn (by decide)
        · exact absurd hn (by decide)
      · exact absurd hn (by decide)
    · exact absurd hn (by decide)
theorem GT.treeE {x : Ex} (h : GT x) : x.treeE = 0 := by
  induction h with
  | not l hl ih =>
    have e : nodeE 1 [] [] 0 (!l.isNil) (!Ex.nil.isNil) = 0 := by rw [hl.ne]; rfl
    rw [Ex.treeE, if_pos e, if_pos ih]; rfl
  | and l r hl hr il ir => simp [Ex.treeE, nodeE, il, ir, hl.ne, hr.ne]
  | or l r hl hr il ir => simp [Ex.treeE, nodeE, il, ir, hl.ne, hr.ne]
  | cmp w o n hw ho hn =>
    have e : nodeE 4 w o n (!Ex.nil.isNil) (!Ex.nil.isNil) = 0 := by
      show (if (4 : Int) = 2 ∨ (4 : Int) = 3 then _ else _) = _
      rw [if_neg (by decide), if_neg (by decide), if_neg (by decide), if_neg (by decide), if_pos rfl, if_pos ⟨rfl, rfl⟩, if_pos hw, if_pos ho, if_neg (by omega)]
    rw [Ex.treeE, if_pos e]; rfl
  | flag w hw =>
    have e : nodeE 5 w [] 0 (!Ex.nil.isNil) (!Ex.nil.isNil) = 0 := by
      show (if (5 : Int) = 2 ∨ (5 : Int) = 3 then _ else _) = _
      rw [if_neg (by decide), if_neg (by decide), if_neg (by decide), if_pos rfl, if_pos ⟨rfl, rfl, rfl, rfl⟩, if_pos hw]
    rw [Ex.treeE, if_pos e]; rfl
  | tru => rfl
  | fls => rfl
theorem textOK_of {x : Ex} (h : GT x) (hn : x.okN) (hw : x.wt ≤ 100000000000) : textOK x := by
  induction h with
  | not l hl ih =>
    simp only [Ex.wt] at hw
    exact text_1 _ _ _ l _ (fun c => Nat.le_trans (Ex.txt_le l c hn.2.1) (by omega)) (ih hn.2.1 (by omega))
  | and l r hl hr il ir =>
    simp only [Ex.wt] at hw
    exact text_2 _ _ _ l r (fun c => Nat.le_trans (Ex.txt_le l c hn.2.1) (by omega)) (fun c => Nat.le_trans (Ex.txt_le r c hn.2.2) (by omega)) (il hn.2.1 (by omega)) (ir hn.2.2 (by omega)) hl.ne hr.ne
  | or l r hl hr il ir =>
    simp only [Ex.wt] at hw
    exact text_3 _ _ _ l r (fun c => Nat.le_trans (Ex.txt_le l c hn.2.1) (by omega)) (fun c => Nat.le_trans (Ex.txt_le r c hn.2.2) (by omega)) (il hn.2.1 (by omega)) (ir hn.2.2 (by omega)) hl.ne hr.ne
  | cmp w o n hw' ho hn' =>
    simp only [Ex.wt] at hw
    exact text_4 w o n _ _ (by omega) (by omega) hn.1
  | flag w hw' =>
    simp only [Ex.wt] at hw
    exact text_5 w _ _ _ _ (by omega)
  | tru => exact text_6 _ _ _ _ _
  | fls => exact text_7 _ _ _ _ _
/-- What Text answers. -/
def Ex.textE (x : Ex) : Str := if x.checkE = 0 then x.txt 0 else []
theorem check_ok {x : Ex} (h : x.checkE = 0) : x.isNil = false ∧ x.depth ≤ 64 ∧ x.treeE = 0 := by
  unfold Ex.checkE at h
  split at h
  · exact absurd h (by decide)
  split at h
  · exact absurd h (by decide)
  · rename_i h1 h2
    exact ⟨Bool.eq_false_iff.2 h1, by omega, h⟩
theorem Text_spec (x : Ex) (hd : x.depth < 1000000) (hn : x.okN) (hw : x.wt ≤ 100000000000) :
    ACall Tryd.prog 17 [x.av] [] fun R H => R = .ret (.tup [.s (sb x.textE), .i .i64 x.checkE]) ∧ H = [] := by
  refine ACall.enter tok false Tryd.func17 rfl rfl rfl (AW_sound (ip := false) tok _ _ _ _ ?_)
  conv => whnf
  refine ACall.mono (check_spec x hd) ?_; rintro r0 H ⟨rfl, rfl⟩
  conv => whnf
  have he : x.textE = if x.checkE = 0 then x.txt 0 else [] := rfl
  have hok := check_ok (x := x)
  generalize x.textE = t at he ⊢
  generalize x.checkE = e at he hok ⊢
  by_cases h : e = 0
  · have b1 : (e != 0) = false := by rw [h]; rfl
    repeat (first | (refine acond_f (b1) ?_; conv => whnf))
    obtain ⟨h1, h2, h3⟩ := hok h
    rw [if_pos h] at he
    refine ACall.mono (textOK_of (GT_of x h3 h1) hn hw 0) ?_; rintro r0 H ⟨rfl, rfl⟩
    conv => whnf
    subst h; subst he
    exact ⟨rfl, rfl⟩
  · have b1 : (e != 0) = true := by simpa using h
    repeat (first | (refine acond_t (b1) ?_; conv => whnf))
    rw [if_neg h] at he
    subst he
    exact ⟨rfl, rfl⟩
end Go.AK
namespace Go.AK
open Go Go.RowKit Go.Proofs
set_option linter.unusedVariables false
set_option maxRecDepth 100000
/-! The parser, told of tokens. -/
abbrev Tok := Str × Nat
/-- How many bytes are within two others. -/
def runB (lo hi : Nat) : Str → Nat
  | c :: r => if lo ≤ c.toNat ∧ c.toNat ≤ hi then runB lo hi r + 1 else 0
  | [] => 0
theorem runB_le (lo hi : Nat) : ∀ r : Str, runB lo hi r ≤ r.length
  | [] => Nat.le_refl _
  | c :: r => by
    unfold runB
    split
    · have := runB_le lo hi r; simp only [List.length_cons]; omega
    · exact Nat.zero_le _
/-- One of the run's loop. -/
theorem runB_step (lo hi : Nat) (r : Str) (k : Nat) (hk : k ≤ runB lo hi r) :
    (k < r.length ∧ (lo ≤ (r.getD k 0).toNat ∧ (r.getD k 0).toNat ≤ hi) ∧ k + 1 ≤ runB lo hi r) ∨ (k = runB lo hi r ∧ ¬ (k < r.length ∧ (lo ≤ (r.getD k 0).toNat ∧ (r.getD k 0).toNat ≤ hi))) := by
  induction r generalizing k with
  | nil => right; simp only [runB] at hk ⊢; refine ⟨by omega, by simp⟩
  | cons c r ih =>
    unfold runB at hk ⊢
    by_cases h : lo ≤ c.toNat ∧ c.toNat ≤ hi
    · rw [if_pos h] at hk ⊢
      cases k with
      | zero => left; refine ⟨by simp, by simpa using h, by omega⟩
      | succ k =>
        rcases ih k (by omega) with ⟨h1, h2, h3⟩ | ⟨h1, h2⟩
        · left; refine ⟨by simpa using h1, by simpa using h2, by omega⟩
        · right; refine ⟨by omega, ?_⟩; simpa using h2
    · rw [if_neg h] at hk ⊢
      have : k = 0 := by omega
      subst this
      right; refine ⟨rfl, ?_⟩; simpa using h
def opsP : List Str := opsL ++ [[40], [41]]
/-- The first comparison, or parenthesis, that a text begins with. -/
def opStep (r : Str) (n : Nat) (t : Str) : Nat := if n = 0 ∧ t.isPrefixOf r = true then t.length else n
def opLen (r : Str) : Nat := opsP.foldl (opStep r) 0
/-- How long the token is that a text begins with. -/
def tokLen (r : Str) : Nat := if 0 < runB 97 122 r then runB 97 122 r else if 0 < runB 48 57 r then runB 48 57 r else opLen r
theorem prefix_len {t r : Str} (h : t.isPrefixOf r = true) : t.length ≤ r.length := (List.isPrefixOf_iff_prefix.1 h).length_le
theorem opLen_le (r : Str) : opLen r ≤ r.length := by
  unfold opLen
  have : ∀ (l : List Str) (n : Nat), n ≤ r.length → l.foldl (opStep r) n ≤ r.length := by
    intro l
    induction l with
    | nil => intro n h; exact h
    | cons t l ih =>
      intro n h
      refine ih _ ?_
      unfold opStep
      split
      · rename_i h2; exact prefix_len h2.2
      · exact h
  exact this _ 0 (Nat.zero_le _)
theorem tokLen_le (r : Str) : tokLen r ≤ r.length := by
  unfold tokLen
  split
  · exact runB_le _ _ _
  split
  · exact runB_le _ _ _
  · exact opLen_le r
/-- The tokens of a text, where they stand, the end as the last one; '?' begins none. -/
def lex : Nat → Str → Nat → List Tok
  | 0, _, _ => []
  | f + 1, r, p =>
    if r = [] then [([], p)]
    else if r.head? = some 32 then lex f r.tail (p + 1)
    else if tokLen r = 0 then [([63], p)]
    else (r.take (tokLen r), p) :: lex f (r.drop (tokLen r)) (p + tokLen r)
theorem lex_fuel : ∀ (f g : Nat) (r : Str) (p : Nat), r.length < f → r.length < g → lex f r p = lex g r p
  | 0, _, _, _, h, _ => by omega
  | _ + 1, 0, _, _, _, h => by omega
  | f + 1, g + 1, r, p, hf, hg => by
    unfold lex
    by_cases h0 : r = []
    · rw [if_pos h0, if_pos h0]
    rw [if_neg h0, if_neg h0]
    have hl : 0 < r.length := List.length_pos_iff.2 h0
    by_cases h1 : r.head? = some 32
    · rw [if_pos h1, if_pos h1]
      exact lex_fuel f g _ _ (by simp only [List.length_tail]; omega) (by simp only [List.length_tail]; omega)
    rw [if_neg h1, if_neg h1]
    by_cases h2 : tokLen r = 0
    · rw [if_pos h2, if_pos h2]
    rw [if_neg h2, if_neg h2]
    rw [lex_fuel f g _ _ (by simp only [List.length_drop]; omega) (by simp only [List.length_drop]; omega)]
def lexS (r : Str) (p : Nat) : List Tok := lex (r.length + 1) r p
theorem lexS_nil (p : Nat) : lexS [] p = [([], p)] := rfl
theorem lexS_blank (r : Str) (p : Nat) : lexS (32 :: r) p = lexS r (p + 1) := by
  unfold lexS
  rw [show (32 :: r : Str).length + 1 = (r.length + 1) + 1 from rfl, lex, if_neg (by simp), if_pos (by simp)]
  rfl
theorem lexS_tok {r : Str} {p : Nat} (h0 : r ≠ []) (h1 : r.head? ≠ some 32) (h2 : tokLen r ≠ 0) :
    lexS r p = (r.take (tokLen r), p) :: lexS (r.drop (tokLen r)) (p + tokLen r) := by
  unfold lexS
  rw [lex, if_neg h0, if_neg h1, if_neg h2]
  have hl : 0 < r.length := List.length_pos_iff.2 h0
  rw [lex_fuel r.length ((r.drop (tokLen r)).length + 1) _ _ (by simp only [List.length_drop]; omega) (by omega)]
theorem lexS_bad {r : Str} {p : Nat} (h0 : r ≠ []) (h1 : r.head? ≠ some 32) (h2 : tokLen r = 0) : lexS r p = [([63], p)] := by
  unfold lexS
  rw [lex, if_neg h0, if_neg h1, if_pos h2]
theorem lexS_blanks : ∀ (r : Str) (p : Nat), lexS r p = lexS (r.drop (runB 32 32 r)) (p + runB 32 32 r)
  | [], p => rfl
  | c :: r, p => by
    unfold runB
    by_cases h : 32 ≤ c.toNat ∧ c.toNat ≤ 32
    · rw [if_pos h]
      have : c = 32 := UInt8.toNat_inj.1 (by show c.toNat = 32; omega)
      subst this
      rw [lexS_blank, lexS_blanks r, List.drop_succ_cons]
      congr 1; omega
    · rw [if_neg h]; rfl
theorem blanks_head : ∀ (r : Str), (r.drop (runB 32 32 r)).head? ≠ some 32
  | [] => by simp [runB]
  | c :: r => by
    unfold runB
    by_cases h : 32 ≤ c.toNat ∧ c.toNat ≤ 32
    · rw [if_pos h, List.drop_succ_cons]; exact blanks_head r
    · rw [if_neg h]
      simp only [List.drop_zero, List.head?_cons, ne_eq, Option.some.injEq]
      intro e; subst e; exact h (by decide)
/-- What a parser comes to. -/
inductive PR where
  | out
  | err (p : Nat) (e : Int)
  | ok (x : Ex) (L : List Tok)
def PR.bind : PR → (Ex → List Tok → PR) → PR
  | .out, _ => .out
  | .err p e, _ => .err p e
  | .ok x L, k => k x L
def hdT : List Tok → Tok
  | [] => ([], 0)
  | t :: _ => t
/-- On to the next token; a parser that is eager stops at once at what begins none. -/
def nxt (g : Bool) (L : List Tok) (k : List Tok → PR) : PR := if g = true ∧ (hdT L.tail).1 = [63] then .err (hdT L.tail).2 11 else k L.tail
def isDig (c : UInt8) : Bool := decide (48 ≤ c.toNat) && decide (c.toNat ≤ 57)
def isLet (c : UInt8) : Bool := decide (97 ≤ c.toNat) && decide (c.toNat ≤ 122)
def badNum : Str → Bool
  | [] => true
  | c :: r => !isDig c || (c == 48 && !r.isEmpty)
def valD (d : Str) : Nat := d.foldl (fun n c => 10 * n + (c.toNat - 48)) 0
def pnum (g : Bool) (L : List Tok) (k : Int → List Tok → PR) : PR :=
  if badNum (hdT L).1 = true then .err (hdT L).2 11 else if 9223372036854775807 < valD (hdT L).1 then .err (hdT L).2 10 else nxt g L (k (valD (hdT L).1))
def isWord : Str → Bool
  | c :: _ => isLet c
  | [] => false
inductive Md where
  | or | orL (x : Ex) | and | andL (x : Ex) | not | opd
/-- The parser. -/
def pp (g : Bool) : Nat → Md → Nat → List Tok → PR
  | 0, _, _, _ => .out
  | f + 1, .or, o, L => (pp g f .and o L).bind fun x L => pp g f (.orL x) o L
  | f + 1, .orL x, o, L => if (hdT L).1 = wOr then nxt g L fun L => (pp g f .and o L).bind fun y L => pp g f (.orL (.nd 3 [] [] 0 x y)) o L else .ok x L
  | f + 1, .and, o, L => (pp g f .not o L).bind fun x L => pp g f (.andL x) o L
  | f + 1, .andL x, o, L => if (hdT L).1 = wAnd then nxt g L fun L => (pp g f .not o L).bind fun y L => pp g f (.andL (.nd 2 [] [] 0 x y)) o L else .ok x L
  | f + 1, .not, o, L => if (hdT L).1 = wNot then nxt g L fun L => (pp g f .not o L).bind fun x L => .ok (.nd 1 [] [] 0 x .nil) L else pp g f .opd o L
  | f + 1, .opd, o, L =>
    if (hdT L).1 = [40] then
      if o = 64 then .err (hdT L).2 12
      else nxt g L fun L => (pp g f .or (o + 1) L).bind fun x L => if (hdT L).1 = [41] then nxt g L fun L => .ok x L else .err (hdT L).2 11
    else if (hdT L).1 = wTrue ∨ (hdT L).1 = wFalse then nxt g L fun L' => .ok (.nd (if (hdT L).1 = wTrue then 6 else 7) [] [] 0 .nil .nil) L'
    else if flagsL.contains (hdT L).1 = true then nxt g L fun L' => .ok (.nd 5 (hdT L).1 [] 0 .nil .nil) L'
    else if numbersL.contains (hdT L).1 = true then
      nxt g L fun L1 => if opsL.contains (hdT L1).1 = true then nxt g L1 fun L2 => pnum g L2 fun n L3 => .ok (.nd 4 (hdT L).1 (hdT L1).1 n .nil .nil) L3 else .err (hdT L1).2 11
    else if isWord (hdT L).1 = true ∧ (hdT L).1 ≠ wAnd ∧ (hdT L).1 ≠ wOr then .err (hdT L).2 21 else .err (hdT L).2 11
/-- A text's expression, or where it is wrong, and how. -/
def topE (g : Bool) (r : PR) : Ex × Nat × Int := match r with
  | .out => (.nil, 0, 0)
  | .err p e => (.nil, p, e)
  | .ok x L => if (hdT L).1 ≠ [] then (.nil, (hdT L).2, 11) else if 64 < x.depth then (.nil, 0, 12) else (x, 0, 0)
def parseE (s : Str) : Ex × Nat × Int :=
  if 8192 < s.length then (.nil, 0, 12) else topE true (nxt true (([], 0) :: lexS s 0) fun L => pp true (8 * s.length + 64) .or 0 L)
end Go.AK
namespace Go.AK
open Go Go.RowKit Go.Proofs
set_option linter.unusedVariables false
set_option maxRecDepth 100000
/-- A parser's cells. -/
def pcl (s : Str) (at_ : Int) (t : Str) (o : Int) : List AV := [.s (sb s), .i .i64 at_, .s (sb t), .i .i64 o]
def pAV : AV := .p (some (0, 0))
theorem sb_get (s : Str) (i : Nat) : (sb s).data.toList.getD i 0 = s.getD i 0 := rfl
theorem run_spec (s t : Str) (a o : Int) (p : Nat) (lo hi : Nat) (hs : s.length < 1000000) (hp : p ≤ s.length) :
    ACall Tryd.prog 37 [pAV, .i .i64 p, .i .u8 lo, .i .u8 hi] [.c (pcl s a t o)] fun R H => R = .ret (.i .i64 (runB lo hi (s.drop p))) ∧ H = [.c (pcl s a t o)] := by
  refine ACall.enter tok false Tryd.func37 rfl rfl rfl (AW_sound (ip := false) tok _ _ _ _ ?_)
  have hle := runB_le lo hi (s.drop p)
  rw [List.length_drop] at hle
  conv => whnf
  refine ALoop.ind (ip := false) tok (fun m r H => ∃ (k : Nat), k ≤ runB lo hi (s.drop p) ∧ m = runB lo hi (s.drop p) - k ∧ H = [.c (pcl s a t o)] ∧
    r = [(9, .i .i64 k), (0, pAV), (1, .i .i64 p), (2, .i .u8 lo), (3, .i .u8 hi), (8, .i .i64 0)]) (runB lo hi (s.drop p)) ?_ ?_
  · exact Gh.regs [9, 0, 1, 2, 3, 8] (Gh.of ⟨0, by omega, by omega, rfl, rfl⟩)
  · rintro m r H ⟨k, hk, rfl, rfl, rfl⟩
    have hw : IntKind.i64.wrap ((p : Int) + k) = ((p + k : Nat) : Int) := by rw [IntKind.wrap_i64]; omega
    have hst := runB_step lo hi (s.drop p) k hk
    have hgd : (s.drop p).getD k 0 = s.getD (p + k) 0 := by simp [List.getD_eq_getElem?_getD]
    have hw2 : IntKind.i64.wrap ((k : Int) + 1) = ((k + 1 : Nat) : Int) := by rw [IntKind.wrap_i64]; omega
    have ht : (IntKind.i64.wrap ((p : Int) + k)).toNat = p + k := by rw [hw]; rfl
    rw [hgd, List.length_drop] at hst
    conv => whnf
    by_cases h : p + k < s.length
    · have h' : ((p + k : Nat) : Int) < ((sb s).size : Nat) := by rw [sb_size]; omega
      repeat (refine acond_t ((by rw [hw]; exact decide_eq_true h')) ?_; conv => whnf)
      refine ⟨⟨by rw [hw]; omega, by rw [hw]; exact h'⟩, ?_⟩
      conv => whnf
      repeat (refine acond_t ((by rw [hw]; exact decide_eq_true h')) ?_; conv => whnf)
      by_cases h2 : (((s.getD (p + k) 0).toNat : Nat) : Int) ≥ (lo : Int)
      · repeat (refine acond_t ((by rw [ht]; exact decide_eq_true h2)) ?_; conv => whnf)
        refine ⟨⟨by rw [hw]; omega, by rw [hw]; exact h'⟩, ?_⟩
        conv => whnf
        repeat (refine acond_t ((by rw [ht]; exact decide_eq_true h2)) ?_; conv => whnf)
        by_cases h3 : (((s.getD (p + k) 0).toNat : Nat) : Int) ≤ (hi : Int)
        · repeat (refine acond_t ((by rw [ht]; exact decide_eq_true h3)) ?_; conv => whnf)
          rcases hst with ⟨_, _, h4⟩ | ⟨_, h4⟩
          · refine Gh.regs [9, 0, 1, 2, 3, 8] (Gh.of ⟨runB lo hi (s.drop p) - (k + 1), by omega, k + 1, h4, rfl, rfl, ?_⟩)
            exact congrArg (fun z => (9, AV.i IntKind.i64 z) :: _) hw2
          · exact absurd ⟨by omega, by omega, by omega⟩ h4
        · repeat (refine acond_f ((by rw [ht]; exact decide_eq_false h3)) ?_; conv => whnf)
          rcases hst with ⟨_, h4, _⟩ | ⟨h4, _⟩
          · exact absurd h4.2 (by omega)
          · exact ⟨congrArg (fun z => ARes.ret (AV.i IntKind.i64 z)) (by rw [h4]), rfl⟩
      · repeat (refine acond_f ((by rw [ht]; exact decide_eq_false h2)) ?_; conv => whnf)
        rcases hst with ⟨_, h4, _⟩ | ⟨h4, _⟩
        · exact absurd h4.1 (by omega)
        · exact ⟨congrArg (fun z => ARes.ret (AV.i IntKind.i64 z)) (by rw [h4]), rfl⟩
    · have h' : ¬ ((p + k : Nat) : Int) < ((sb s).size : Nat) := by rw [sb_size]; omega
      repeat (refine acond_f ((by rw [hw]; exact decide_eq_false h')) ?_; conv => whnf)
      rcases hst with ⟨h4, _⟩ | ⟨h4, _⟩
      · omega
      · exact ⟨congrArg (fun z => ARes.ret (AV.i IntKind.i64 z)) (by rw [h4]), rfl⟩
/-- What a parser stops with. -/
def wrAV (p : Nat) (e : Int) : AV := .ifc 59 (.agg [.i .i64 p, .i .i64 e])
theorem stop_spec (s t : Str) (a : Nat) (o e : Int) :
    ACall Tryd.prog 27 [pAV, .i .i64 e] [.c (pcl s a t o)] fun R H => R = .pan (wrAV a e) ∧ H = [.c (pcl s a t o)] := by
  refine ACall.enter tok false Tryd.func27 rfl rfl rfl (AW_sound (ip := false) tok _ _ _ _ ?_)
  conv => whnf
  exact ⟨rfl, rfl⟩
theorem ops_own : ACall Tryd.prog 38 [] [] fun r H => r = .ret (.sl (some (0, 0)) 1 6 6) ∧ H = [.c (strs opsL)] := by
  refine ACall.enter tok false Tryd.func38 rfl rfl rfl (AW_sound (ip := false) tok _ _ _ _ ?_)
  conv => whnf
  exact ⟨rfl, rfl⟩
theorem hasPrefix0_spec (r t : Str) (h1 : r.length < 1000000) (h2 : t.length < 1000000) :
    ACall Tryd.prog 50 [.s (sb r), .s (sb t)] [] fun R H => R = .ret (.b (t.isPrefixOf r)) ∧ H = [] := by
  refine ACall.enter tok false Tryd.func50 rfl rfl rfl (AW_sound (ip := false) tok _ _ _ _ ?_)
  conv => whnf
  by_cases h : (((sb r).size : Nat) : Int) ≥ ((sb t).size : Nat)
  · repeat (refine acond_t (decide_eq_true h) ?_; conv => whnf)
    refine ⟨⟨by omega, by omega⟩, ?_⟩
    conv => whnf
    repeat (refine acond_t (decide_eq_true h) ?_; conv => whnf)
    refine ⟨congrArg (fun z => ARes.ret (AV.b z)) ?_, rfl⟩
    rw [sb_size, sb_size] at h
    show (((sb r).extract 0 ((((sb t).size : Nat) : Int)).toNat).data.toList == t) = _
    rw [sb_extract, Int.toNat_natCast, sb_size, List.drop_zero, Nat.sub_zero]
    show (r.take t.length == t) = _
    rw [Bool.eq_iff_iff, beq_iff_eq, List.isPrefixOf_iff_prefix, List.prefix_iff_eq_take]
    exact eq_comm
  · repeat (refine acond_f (decide_eq_false h) ?_; conv => whnf)
    refine ⟨congrArg (fun z => ARes.ret (AV.b z)) ?_, rfl⟩
    rw [sb_size, sb_size] at h
    cases hp : t.isPrefixOf r with
    | false => rfl
    | true => have := prefix_len hp; omega
theorem hasPrefix_spec (r t : Str) (h1 : r.length < 1000000) (h2 : t.length < 1000000) :
    ACall Tryd.prog 39 [.s (sb r), .s (sb t)] [] fun R H => R = .ret (.b (t.isPrefixOf r)) ∧ H = [] := by
  refine ACall.enter tok false Tryd.func39 rfl rfl rfl (AW_sound (ip := false) tok _ _ _ _ ?_)
  conv => whnf
  refine ACall.mono (hasPrefix0_spec r t h1 h2) ?_; rintro r0 H ⟨rfl, rfl⟩
  conv => whnf
  exact ⟨rfl, rfl⟩
end Go.AK
namespace Go.AK
open Go Go.RowKit Go.Proofs
set_option linter.unusedVariables false
set_option maxRecDepth 100000
/-- The parser stands at these tokens. -/
def St (s : Str) (L : List Tok) : Prop := ∃ p, p ≤ s.length ∧ (s.drop p).head? ≠ some 32 ∧ L = lexS (s.drop p) p ∧ (hdT L).1 ≠ [63]
/-- What 'next' comes to. -/
def NextR (s : Str) (L : List Tok) (o : Int) (R : ARes) (H : Heap) : Prop :=
  ((hdT L).1 = [63] ∧ R = .pan (wrAV (hdT L).2 11) ∧ ∃ cs, H = [.c cs]) ∨ ((hdT L).1 ≠ [63] ∧ R = .ret (.tup []) ∧ H = [.c (pcl s (hdT L).2 (hdT L).1 o)] ∧ St s L)
theorem opFold_pos (r : Str) : ∀ (l : List Str) (n : Nat), n ≠ 0 → l.foldl (opStep r) n = n
  | [], n, _ => rfl
  | t :: l, n, h => by
    rw [List.foldl_cons, show opStep r n t = n from by unfold opStep; rw [if_neg (fun e => h e.1)], opFold_pos r l n h]
theorem run_one (r : Str) (h : 0 < runB 97 122 r) : runB 48 57 r = 0 := by
  cases r with
  | nil => rfl
  | cons c r =>
    unfold runB at h ⊢
    split at h
    · rename_i h2; rw [if_neg (by omega)]
    · omega
theorem tokLen_fold (r : Str) (n : Nat) (h : (n : Int) = if ((runB 48 57 r : Nat) : Int) > ((runB 97 122 r : Nat) : Int) then ((runB 48 57 r : Nat) : Int) else ((runB 97 122 r : Nat) : Int)) : opsP.foldl (opStep r) n = tokLen r := by
  have h1 := run_one r
  unfold tokLen
  by_cases a : 0 < runB 97 122 r
  · have := h1 a
    rw [if_pos a, opFold_pos]
    · rw [if_neg (by omega)] at h; omega
    · rw [if_neg (by omega)] at h; omega
  · rw [if_neg a]
    by_cases b : 0 < runB 48 57 r
    · rw [if_pos b, opFold_pos]
      · rw [if_pos (by omega)] at h; omega
      · rw [if_pos (by omega)] at h; omega
    · rw [if_neg b]
      have : n = 0 := by split at h <;> omega
      subst this; rfl
theorem opFold_le (r : Str) (n : Nat) (h : n ≤ r.length) : ∀ (l : List Str), l.foldl (opStep r) n ≤ r.length := by
  intro l
  induction l generalizing n with
  | nil => exact h
  | cons t l ih =>
    refine ih _ ?_
    unfold opStep
    split
    · rename_i h2; exact prefix_len h2.2
    · exact h
theorem opsP_len (k : Nat) (h : k < opsP.length) : (opsP[k]).length ≤ 2 ∧ 0 < (opsP[k]).length := by
  have : ∀ t ∈ opsP, t.length ≤ 2 ∧ 0 < t.length := by decide
  exact this _ (List.getElem_mem h)
theorem next_spec (s tk : Str) (a : Nat) (o : Int) (h : a + tk.length ≤ s.length) (hs : s.length ≤ 100000) :
    ACall Tryd.prog 25 [pAV] [.c (pcl s a tk o)] (NextR s (lexS (s.drop (a + tk.length)) (a + tk.length)) o) := by
  refine ACall.gh ?_
  refine ACall.enter tok false Tryd.func25 rfl rfl rfl (AW_sound (ip := false) tok _ _ _ _ ?_)
  have hb0 : IntKind.i64.wrap ((a : Int) + ((sb tk).size : Nat)) = ((a + tk.length : Nat) : Int) := by rw [IntKind.wrap_i64, sb_size]; omega
  generalize hp : a + tk.length = p at *
  have hb1 : IntKind.i64.wrap ((p : Int) + (runB 32 32 (s.drop p) : Nat)) = ((p + runB 32 32 (s.drop p) : Nat) : Int) := by
    have := runB_le 32 32 (s.drop p); rw [List.length_drop] at this; rw [IntKind.wrap_i64]; omega
  have hq : p + runB 32 32 (s.drop p) ≤ s.length := by have := runB_le 32 32 (s.drop p); rw [List.length_drop] at this; omega
  conv => whnf
  refine ADraw.of tok mixed false [0, 1, 2, 3, 4, 5, 6, 7, 8, 9, 10, 11] [12] (by kernel_rfl) (fun _ _ _ _ h => h) ?_
  conv => whnf
  refine ⟨Nat.le_of_ble_eq_true rfl, ?_⟩
  refine ADraw.gh (Gh.regs [0] (Gh.of ?_))
  refine ADraw.to (r' := [(0, pAV)]) (H' := [.c (pcl s p tk o)]) rfl (by show [Blk.c [_, .i .i64 (IntKind.i64.wrap _), _, _]] = _; rw [hb0]; rfl) ?_
  generalize hqe : p + runB 32 32 (s.drop p) = q at *
  refine ADraw.post (Q' := fun x r H => x = .normal ∧ H = [.c (pcl s q tk o)] ∧ keepR [0] r = [(0, pAV)]) ?_ ?_ (fun x r H hn h => absurd h.1 hn)
  · refine ADraw.tree tok mixed false [] [0, 1, 2, 4, 5, 6, 7] (.node (.cons 3 (.node (.cons 8 (.node (.cons 9 (.node (.cons 10 (.node (.cons 11 (.node (.cons 12 (.node (.cons 13 (.node .nil) .nil)) .nil)) .nil)) .nil)) .nil)) .nil)) (.cons 8 (.node (.cons 3 (.node (.cons 9 (.node (.cons 10 (.node (.cons 11 (.node (.cons 12 (.node (.cons 13 (.node .nil) .nil)) .nil)) .nil)) .nil)) .nil)) (.cons 9 (.node (.cons 3 (.node (.cons 10 (.node (.cons 11 (.node (.cons 12 (.node (.cons 13 (.node .nil) .nil)) .nil)) .nil)) .nil)) .nil)) .nil))) .nil))) (by kernel_rfl) (fun _ _ _ _ h => nomatch h.1) ?_
    have fin : ∀ z : Int, z = q → [Blk.c [AV.s (sb s), .i .i64 z, .s (sb tk), .i .i64 o]] = [.c (pcl s q tk o)] := fun z hz => by rw [hz]; rfl
    conv => whnf
    refine And.intro ?_ (And.intro ?_ trivial)
    · conv => whnf
      refine ACall.mono (run_spec s tk p o p 32 32 (by omega) h) ?_; rintro r0 H0 ⟨rfl, rfl⟩
      conv => whnf
      refine ⟨Nat.le_of_ble_eq_true rfl, ?_⟩
      exact ⟨rfl, fin _ hb1, rfl⟩
    · conv => whnf
      refine And.intro ?_ (And.intro ?_ trivial)
      · conv => whnf
        refine ACall.mono (run_spec s tk p o p 32 32 (by omega) h) ?_; rintro r0 H0 ⟨rfl, rfl⟩
        conv => whnf
        refine ⟨Nat.le_of_ble_eq_true rfl, ?_⟩
        exact ⟨rfl, fin _ hb1, rfl⟩
      · conv => whnf
        refine ACall.mono (run_spec s tk p o p 32 32 (by omega) h) ?_; rintro r0 H0 ⟨rfl, rfl⟩
        conv => whnf
        refine ⟨Nat.le_of_ble_eq_true rfl, ?_⟩
        exact ⟨rfl, fin _ hb1, rfl⟩
  rintro r H ⟨_, rfl, hr⟩
  refine Gh.regs [0] (Gh.of ?_)
  rw [hr]
  conv => whnf
  refine ADraw.of tok mixed false [0, 1, 2, 3, 4, 5, 6, 7, 8, 9] [] (by kernel_rfl) (fun _ _ _ _ h => h) ?_
  conv => whnf
  refine ⟨⟨by omega, by rw [sb_size]; omega⟩, ?_⟩
  conv => whnf
  have hrs : (sb s).extract ((q : Nat) : Int).toNat (sb s).size = sb (s.drop q) := by
    rw [sb_size, sb_extract, Int.toNat_natCast, List.take_of_length_le (by rw [List.length_drop]; omega)]
  refine ADraw.gh (Gh.regs [0, 2] (Gh.of ?_))
  refine ADraw.to (r' := [(0, pAV), (2, .s (sb (s.drop q)))]) (H' := [.c (pcl s q tk o)]) (by show [_, (2, AV.s _)] = _; rw [hrs]) rfl ?_
  refine ADraw.post (Q' := fun x r H => x = .normal ∧ H = [.c (pcl s q tk o)] ∧ keepR [0, 2, 3] r = [(0, pAV), (2, .s (sb (s.drop q))), (3, .i .i64 (if ((runB 48 57 (s.drop q) : Nat) : Int) > ((runB 97 122 (s.drop q) : Nat) : Int) then ((runB 48 57 (s.drop q) : Nat) : Int) else ((runB 97 122 (s.drop q) : Nat) : Int)))]) ?_ ?_ (fun x r H hn h => absurd h.1 hn)
  · refine ADraw.tree tok mixed false [] [0, 1, 2, 3, 6, 7, 8, 9] (.node (.cons 4 (.node (.cons 5 (.node (.cons 10 (.node (.cons 11 (.node (.cons 12 (.node (.cons 13 (.node .nil) .nil)) .nil)) .nil)) .nil)) (.cons 10 (.node (.cons 5 (.node (.cons 11 (.node (.cons 12 (.node (.cons 13 (.node .nil) .nil)) .nil)) .nil)) .nil)) .nil))) (.cons 10 (.node (.cons 4 (.node (.cons 5 (.node (.cons 11 (.node (.cons 12 (.node (.cons 13 (.node .nil) .nil)) .nil)) .nil)) .nil)) .nil)) .nil))) (by kernel_rfl) (fun _ _ _ _ h => nomatch h.1) ?_
    conv => whnf
    refine (And.intro ?_ (And.intro ?_ trivial))
    · conv => whnf
      refine (And.intro ?_ (And.intro ?_ trivial))
      · conv => whnf
        refine ACall.mono (run_spec s tk q o q 97 122 (by omega) hq) ?_; rintro r0 H0 ⟨rfl, rfl⟩
        conv => whnf
        refine ACall.mono (run_spec s tk q o q 48 57 (by omega) hq) ?_; rintro r0 H0 ⟨rfl, rfl⟩
        conv => whnf
        exact ⟨rfl, rfl, rfl⟩
      · conv => whnf
        refine ACall.mono (run_spec s tk q o q 97 122 (by omega) hq) ?_; rintro r0 H0 ⟨rfl, rfl⟩
        conv => whnf
        refine ACall.mono (run_spec s tk q o q 48 57 (by omega) hq) ?_; rintro r0 H0 ⟨rfl, rfl⟩
        conv => whnf
        exact ⟨rfl, rfl, rfl⟩
    · conv => whnf
      refine ACall.mono (run_spec s tk q o q 97 122 (by omega) hq) ?_; rintro r0 H0 ⟨rfl, rfl⟩
      conv => whnf
      refine ACall.mono (run_spec s tk q o q 48 57 (by omega) hq) ?_; rintro r0 H0 ⟨rfl, rfl⟩
      conv => whnf
      exact ⟨rfl, rfl, rfl⟩
  rintro r H ⟨_, rfl, hr⟩
  refine Gh.regs [0, 2, 3] (Gh.of ?_)
  rw [hr]
  obtain ⟨n0, hn0⟩ : ∃ n0 : Nat, (n0 : Int) = if ((runB 48 57 (s.drop q) : Nat) : Int) > ((runB 97 122 (s.drop q) : Nat) : Int) then ((runB 48 57 (s.drop q) : Nat) : Int) else ((runB 97 122 (s.drop q) : Nat) : Int) := by
    split
    · exact ⟨_, rfl⟩
    · exact ⟨_, rfl⟩
  have hfold := tokLen_fold _ n0 hn0
  have hn0l : n0 ≤ (s.drop q).length := by
    have := runB_le 97 122 (s.drop q); have := runB_le 48 57 (s.drop q); split at hn0 <;> omega
  rw [← hn0]
  conv => whnf
  refine ACall.frameH [] [] rfl (args' := []) (Hc := []) rfl rfl ops_own ?_
  rintro r0 H0 ⟨rfl, rfl⟩
  refine ⟨.inl rfl, [.c (pcl s q tk o), .c (strs opsL)], rfl, ?_⟩
  conv => whnf
  refine ⟨by rw [strs_length]; decide, ?_⟩
  conv => whnf
  refine ⟨by decide, ?_⟩
  conv => whnf
  refine ⟨rfl, by decide, by decide, ?_⟩
  intro c hc
  conv => whnf
  refine ALoop.ind (ip := false) tok (fun m r H => ∃ (k n : Nat), k ≤ 8 ∧ m = 8 - k ∧ n = (opsP.take k).foldl (opStep (s.drop q)) n0 ∧ H = [.c (pcl s q tk o), .c (strs opsP)] ∧
    r = [(57, .i .i64 k), (56, .i .i64 8), (55, .sl (some (1, 0)) 1 8 c), (0, pAV), (2, .s (sb (s.drop q))), (3, .i .i64 n)]) 8 ?_ ?_
  · exact Gh.regs [57, 56, 55, 0, 2, 3] (Gh.sel [0, 3] rfl (Gh.of ⟨0, n0, by omega, by omega, rfl, rfl, rfl⟩))
  · rintro m r H ⟨k, n, hk, rfl, hn, rfl, rfl⟩
    conv => whnf
    by_cases h8 : (k : Int) < 8
    · (refine acond_t (decide_eq_true h8) ?_; conv => whnf)
      refine ⟨⟨by omega, h8⟩, ?_⟩
      conv => whnf
      have hkl : k < opsP.length := by show k < 8; omega
      refine aget_strs (i := k) (by omega) hkl ?_
      conv => whnf
      have hw : IntKind.i64.wrap ((k : Int) + 1) = ((k + 1 : Nat) : Int) := by rw [IntKind.wrap_i64]; omega
      have hstep : (opsP.take (k + 1)).foldl (opStep (s.drop q)) n0 = opStep (s.drop q) n opsP[k] := by
        rw [List.take_succ_eq_append_getElem hkl, List.foldl_append, ← hn]; rfl
      have hl2 := opsP_len k hkl
      by_cases hz : n = 0
      · have hz' : ((n : Int) == 0) = true := by subst hz; rfl
        repeat (refine acond_t (hz') ?_; conv => whnf)
        refine ACall.frameH [] [] rfl (args' := [.s (sb (s.drop q)), .s (sb opsP[k])]) (Hc := []) rfl rfl (hasPrefix_spec (s.drop q) opsP[k] (by rw [List.length_drop]; omega) (by omega)) ?_
        rintro r0 H0 ⟨rfl, rfl⟩
        refine ⟨.inl rfl, [.c (pcl s q tk o), .c (strs opsP)], rfl, ?_⟩
        conv => whnf
        repeat (refine acond_t (hz') ?_; conv => whnf)
        by_cases hx : opsP[k].isPrefixOf (s.drop q) = true
        · repeat (refine acond_t (hx) ?_; conv => whnf)
          refine Gh.regs [57, 56, 55, 0, 2, 3] (Gh.of ⟨8 - (k + 1), by omega, k + 1, opsP[k].length, by omega, rfl, ?_, rfl, ?_⟩)
          · rw [hstep]; unfold opStep; rw [if_pos ⟨hz, hx⟩]
          · show [(57, AV.i IntKind.i64 (IntKind.i64.wrap ((k : Int) + 1))), _, _, _, _, (3, AV.i IntKind.i64 (((sb opsP[k]).size : Nat) : Int))] = _
            rw [hw, sb_size]
        · have hx' := Bool.eq_false_iff.2 hx
          repeat (refine acond_f (hx') ?_; conv => whnf)
          refine Gh.regs [57, 56, 55, 0, 2, 3] (Gh.of ⟨8 - (k + 1), by omega, k + 1, n, by omega, rfl, ?_, rfl, ?_⟩)
          · rw [hstep]; unfold opStep; rw [if_neg (fun e => hx e.2)]
          · exact congrArg (fun z => (57, AV.i IntKind.i64 z) :: _) hw
      · have hz' : ((n : Int) == 0) = false := by rw [beq_eq_false_iff_ne]; omega
        repeat (refine acond_f (hz') ?_; conv => whnf)
        refine Gh.regs [57, 56, 55, 0, 2, 3] (Gh.of ⟨8 - (k + 1), by omega, k + 1, n, by omega, rfl, ?_, rfl, ?_⟩)
        · rw [hstep]; unfold opStep; rw [if_neg (fun e => hz e.1)]
        · exact congrArg (fun z => (57, AV.i IntKind.i64 z) :: _) hw
    · (refine acond_f (decide_eq_false h8) ?_; conv => whnf)
      have : k = 8 := by omega
      subst this
      rw [show opsP.take 8 = opsP from rfl, hfold] at hn
      subst hn
      have hL : lexS (s.drop p) p = lexS (s.drop q) q := by rw [lexS_blanks, List.drop_drop, hqe]
      have hhd : (s.drop q).head? ≠ some 32 := by have := blanks_head (s.drop p); rw [List.drop_drop, hqe] at this; exact this
      have hle := tokLen_le (s.drop q)
      rw [List.length_drop] at hle
      rw [hL]
      by_cases hz : tokLen (s.drop q) = 0
      · have hz' : (((tokLen (s.drop q) : Nat) : Int) == 0) = true := by rw [hz]; rfl
        repeat (refine acond_t (hz') ?_; conv => whnf)
        by_cases he : s.drop q = []
        · have he' : (!((s.drop q) == ([] : Str))) = false := by rw [he]; rfl
          repeat (refine acond_f (he') ?_; conv => whnf)
          refine ⟨⟨by omega, by rw [sb_size, List.length_drop]; omega⟩, ?_⟩
          conv => whnf
          refine ⟨Nat.le_of_ble_eq_true rfl, ?_⟩
          have h1 : lexS (s.drop q) q = [([], q)] := by rw [he]; rfl
          refine GhR.sel [0] rfl (GhR.of (.inr ⟨by rw [h1]; exact (by decide : ([] : Str) ≠ [63]), rfl, ?_, q, hq, hhd, rfl, by rw [h1]; exact (by decide : ([] : Str) ≠ [63])⟩))
          show [Blk.c [_, _, .s ((sb (s.drop q)).extract 0 _), _]] = _
          rw [h1, sb_extract, he]; simp only [List.drop_nil, List.take_nil]; rfl
        · have he' : (!((s.drop q) == ([] : Str))) = true := by rw [Bool.not_eq_true', beq_eq_false_iff_ne]; exact he
          repeat (refine acond_t (he') ?_; conv => whnf)
          refine ACall.frameH [0] [] rfl (args' := [pAV, .i .i64 11]) (Hc := [.c (pcl s q tk o)]) rfl rfl (stop_spec s tk q o 11) ?_
          rintro r0 H0 ⟨rfl, rfl⟩
          refine ⟨.inl rfl, [.c (pcl s q tk o), .c (strs opsP)], rfl, ?_⟩
          conv => whnf
          have h1 := lexS_bad (p := q) he hhd hz
          exact GhR.sel [0] rfl (GhR.of (.inl ⟨by rw [h1]; rfl, by rw [h1]; rfl, _, rfl⟩))
      · have hz' : (((tokLen (s.drop q) : Nat) : Int) == 0) = false := by rw [beq_eq_false_iff_ne]; omega
        have he : s.drop q ≠ [] := fun e => hz (by rw [e]; rfl)
        repeat (refine acond_f (hz') ?_; conv => whnf)
        refine ⟨⟨by omega, by rw [sb_size, List.length_drop]; omega⟩, ?_⟩
        conv => whnf
        refine ⟨Nat.le_of_ble_eq_true rfl, ?_⟩
        have h1 := lexS_tok (p := q) he hhd hz
        have hne : (s.drop q).take (tokLen (s.drop q)) ≠ [63] := by
          intro e
          cases hr2 : s.drop q with
          | nil => exact he hr2
          | cons c r2 =>
            rw [hr2] at e hz
            cases hm : tokLen (c :: r2) with
            | zero => exact hz hm
            | succ m =>
              rw [hm, List.take_succ_cons, List.cons.injEq] at e
              rw [e.1] at hz
              exact hz rfl
        refine GhR.sel [0] rfl (GhR.of (.inr ⟨by rw [h1]; exact hne, rfl, ?_, q, hq, hhd, rfl, by rw [h1]; exact hne⟩))
        show [Blk.c [_, _, .s ((sb (s.drop q)).extract 0 _), _]] = _
        rw [h1, sb_extract, List.drop_zero, Nat.sub_zero, Int.toNat_natCast]; rfl
end Go.AK
namespace Go.AK
open Go Go.RowKit Go.Proofs
set_option linter.unusedVariables false
set_option maxRecDepth 100000
theorem St.hd {s : Str} {L : List Tok} (h : St s L) : (hdT L).2 ≤ s.length ∧ (hdT L).1 = (s.drop (hdT L).2).take (tokLen (s.drop (hdT L).2)) ∧ (s.drop (hdT L).2 ≠ [] → tokLen (s.drop (hdT L).2) ≠ 0) ∧ (s.drop (hdT L).2).head? ≠ some 32 ∧ L = lexS (s.drop (hdT L).2) (hdT L).2 := by
  obtain ⟨p, hp, hh, hL, hq⟩ := h
  have key : (hdT L).2 = p ∧ (hdT L).1 = (s.drop p).take (tokLen (s.drop p)) ∧ (s.drop p ≠ [] → tokLen (s.drop p) ≠ 0) := by
    by_cases h0 : s.drop p = []
    · rw [h0] at hL ⊢
      rw [hL, lexS_nil]
      exact ⟨rfl, rfl, fun h => absurd rfl h⟩
    · by_cases h2 : tokLen (s.drop p) = 0
      · rw [hL, lexS_bad h0 hh h2] at hq; exact absurd rfl hq
      · rw [hL, lexS_tok h0 hh h2]
        exact ⟨rfl, rfl, fun _ => h2⟩
  rw [key.1]
  exact ⟨hp, key.2.1, key.2.2, hh, hL⟩
theorem St.tail {s : Str} {L : List Tok} (h : St s L) (hne : (hdT L).1 ≠ []) :
    (hdT L).2 + (hdT L).1.length ≤ s.length ∧ L.tail = lexS (s.drop ((hdT L).2 + (hdT L).1.length)) ((hdT L).2 + (hdT L).1.length) ∧ L ≠ [] := by
  obtain ⟨h1, h2, h3, h4, h5⟩ := h.hd
  generalize (hdT L).2 = p at *
  have h0 : s.drop p ≠ [] := fun e => hne (by rw [h2, e]; rfl)
  have hl := tokLen_le (s.drop p)
  rw [List.length_drop] at hl
  have hlen : (hdT L).1.length = tokLen (s.drop p) := by rw [h2, List.length_take, List.length_drop]; omega
  rw [hlen]
  rw [lexS_tok h0 h4 (h3 h0)] at h5
  refine ⟨by omega, ?_, by rw [h5]; simp⟩
  rw [h5, List.tail_cons, List.drop_drop]
theorem next_at {s : Str} {L : List Tok} {o : Int} (h : St s L) (hne : (hdT L).1 ≠ []) (hs : s.length ≤ 100000) :
    ACall Tryd.prog 25 [pAV] [.c (pcl s (hdT L).2 (hdT L).1 o)] (NextR s L.tail o) := by
  obtain ⟨h1, h2, _⟩ := h.tail hne
  rw [h2]
  exact next_spec s _ _ o h1 hs
def TakeR (s : Str) (L : List Tok) (o : Int) (t : Str) (R : ARes) (H : Heap) : Prop :=
  ((hdT L).1 ≠ t ∧ R = .ret (.b false) ∧ H = [.c (pcl s (hdT L).2 (hdT L).1 o)]) ∨
  ((hdT L).1 = t ∧ (hdT L.tail).1 = [63] ∧ R = .pan (wrAV (hdT L.tail).2 11) ∧ ∃ cs, H = [.c cs]) ∨
  ((hdT L).1 = t ∧ (hdT L.tail).1 ≠ [63] ∧ R = .ret (.b true) ∧ H = [.c (pcl s (hdT L.tail).2 (hdT L.tail).1 o)] ∧ St s L.tail)
theorem take_spec {s : Str} {L : List Tok} {o : Int} (t : Str) (h : St s L) (ht : t ≠ []) (hs : s.length ≤ 100000) :
    ACall Tryd.prog 41 [pAV, .s (sb t)] [.c (pcl s (hdT L).2 (hdT L).1 o)] (TakeR s L o t) := by
  refine ACall.enter tok false Tryd.func41 rfl rfl rfl (AW_sound (ip := false) tok _ _ _ _ ?_)
  conv => whnf
  by_cases he : (hdT L).1 = t
  · have h1 : (!((hdT L).1 == t)) = false := by rw [he]; simp
    repeat (refine acond_f (h1) ?_; conv => whnf)
    refine ACall.mono (next_at h (by rw [he]; exact ht) hs) ?_
    rintro r0 H0 (⟨k1, rfl, cs, rfl⟩ | ⟨k1, rfl, rfl, k2⟩)
    · conv => whnf
      exact .inr (.inl ⟨he, k1, rfl, cs, rfl⟩)
    · conv => whnf
      exact .inr (.inr ⟨he, k1, rfl, rfl, k2⟩)
  · have h1 : (!((hdT L).1 == t)) = true := by simpa using he
    repeat (refine acond_t (h1) ?_; conv => whnf)
    exact .inl ⟨he, rfl, rfl⟩
/-! Numbers. -/
theorem runB_all (lo hi : Nat) : ∀ (r : Str), ∀ c ∈ r.take (runB lo hi r), lo ≤ c.toNat ∧ c.toNat ≤ hi
  | [], c, h => by simp at h
  | a :: r, c, h => by
    unfold runB at h
    split at h
    · rename_i ha
      rw [List.take_succ_cons, List.mem_cons] at h
      rcases h with rfl | h
      · exact ha
      · exact runB_all lo hi r c h
    · simp at h
theorem dig_let {r : Str} (h : 0 < runB 48 57 r) : runB 97 122 r = 0 := by
  have := run_one r
  omega
/-- The digits of a token. -/
theorem tok_dig {r : Str} (h : 0 < runB 48 57 r) : tokLen r = runB 48 57 r := by
  unfold tokLen
  rw [dig_let h, if_neg (by omega), if_pos h]
theorem badNum_iff {s : Str} {L : List Tok} (h : St s L) :
    badNum (hdT L).1 = (decide (runB 48 57 (s.drop (hdT L).2) = 0) || (((hdT L).1.getD 0 0 == 48) && decide (1 < (hdT L).1.length))) := by
  obtain ⟨h1, h2, h3, h4, h5⟩ := h.hd
  generalize (hdT L).2 = p at *
  generalize (hdT L).1 = tk at *
  subst h2
  generalize s.drop p = r at *
  cases r with
  | nil => rfl
  | cons c r =>
    have h6 := h3 (by simp)
    cases hm : tokLen (c :: r) with
    | zero => exact absurd hm h6
    | succ m =>
      rw [List.take_succ_cons]
      have e1 : runB 48 57 (c :: r) = (if 48 ≤ c.toNat ∧ c.toNat ≤ 57 then runB 48 57 r + 1 else 0) := rfl
      by_cases hd : 48 ≤ c.toNat ∧ c.toNat ≤ 57
      · rw [show decide (runB 48 57 (c :: r) = 0) = false from decide_eq_false (by rw [e1, if_pos hd]; omega)]
        simp only [badNum, isDig]
        rw [decide_eq_true hd.1, decide_eq_true hd.2]
        simp only [Bool.and_self, Bool.not_true, Bool.false_or, List.getD_cons_zero]
        congr 1
        cases r.take m <;> simp
      · rw [show decide (runB 48 57 (c :: r) = 0) = true from decide_eq_true (by rw [e1, if_neg hd])]
        simp only [badNum, isDig]
        have : (decide (48 ≤ c.toNat) && decide (c.toNat ≤ 57)) = false := by
          rw [Bool.and_eq_false_iff, decide_eq_false_iff_not, decide_eq_false_iff_not]; omega
        rw [this]; rfl
theorem valD_ge : ∀ (l : Str) (a : Nat), a ≤ l.foldl (fun n c => 10 * n + (c.toNat - 48)) a
  | [], a => Nat.le_refl _
  | c :: l, a => by
    rw [List.foldl_cons]
    exact Nat.le_trans (by omega) (valD_ge l _)
theorem parse10_dig : ∀ (l : Str) (a : Nat), (∀ c ∈ l, 48 ≤ c.toNat ∧ c.toNat ≤ 57) → a < 18446744073709551616 →
    Lib.parseUint10 a l = if l.foldl (fun n c => 10 * n + (c.toNat - 48)) a < 18446744073709551616 then .ok (l.foldl (fun n c => 10 * n + (c.toNat - 48)) a) else .range
  | [], a, _, ha => by rw [Lib.parseUint10, List.foldl_nil, if_pos ha]
  | c :: l, a, h, ha => by
    have hc := h c (by simp)
    have hg := valD_ge l (10 * a + (c.toNat - 48))
    rw [Lib.parseUint10, if_pos hc, List.foldl_cons]
    by_cases h1 : 1844674407370955162 ≤ a
    · rw [if_pos h1, if_neg (by omega)]
    · rw [if_neg h1]
      by_cases h2 : 18446744073709551616 ≤ a * 10 + (c.toNat - 48)
      · rw [if_pos h2, if_neg (by omega)]
      · rw [if_neg h2, Nat.mul_comm a 10]
        exact parse10_dig l _ (fun x hx => h x (by simp [hx])) (by omega)
theorem atoi_dig {l : Str} (h : ∀ c ∈ l, 48 ≤ c.toNat ∧ c.toNat ≤ 57) (h0 : l ≠ []) :
    Lib.atoiAll l = if 9223372036854775807 < valD l then .range else .ok ((valD l : Nat) : Int) := by
  cases l with
  | nil => exact absurd rfl h0
  | cons c l =>
    have hc := h c (by simp)
    have hp := parse10_dig (c :: l) 0 h (by omega)
    rw [Lib.atoiAll_plain c l (by omega) (by omega)]
    unfold Lib.parseMag
    rw [if_neg (by simp), hp]
    show Lib.signless (if valD (c :: l) < 18446744073709551616 then Lib.NumEnd.ok (valD (c :: l)) else Lib.NumEnd.range) = _
    by_cases h1 : valD (c :: l) < 18446744073709551616
    · rw [if_pos h1]
      show (if 9223372036854775808 ≤ valD (c :: l) then Lib.NumEnd.range else Lib.NumEnd.ok ((valD (c :: l) : Nat) : Int)) = _
      by_cases h2 : 9223372036854775807 < valD (c :: l)
      · rw [if_pos h2, if_pos (by omega)]
      · rw [if_neg h2, if_neg (by omega)]
    · rw [if_neg h1, if_pos (by omega)]; rfl
def NumR (s : Str) (L : List Tok) (o : Int) (R : ARes) (H : Heap) : Prop :=
  (badNum (hdT L).1 = true ∧ R = .pan (wrAV (hdT L).2 11) ∧ ∃ cs, H = [.c cs]) ∨
  (badNum (hdT L).1 = false ∧ 9223372036854775807 < valD (hdT L).1 ∧ R = .pan (wrAV (hdT L).2 10) ∧ ∃ cs, H = [.c cs]) ∨
  (badNum (hdT L).1 = false ∧ ¬ 9223372036854775807 < valD (hdT L).1 ∧ (hdT L.tail).1 = [63] ∧ R = .pan (wrAV (hdT L.tail).2 11) ∧ ∃ cs, H = [.c cs]) ∨
  (badNum (hdT L).1 = false ∧ ¬ 9223372036854775807 < valD (hdT L).1 ∧ (hdT L.tail).1 ≠ [63] ∧ R = .ret (.i .i64 (valD (hdT L).1)) ∧ H = [.c (pcl s (hdT L.tail).2 (hdT L.tail).1 o)] ∧ St s L.tail)
theorem number_spec {s : Str} {L : List Tok} {o : Int} (h : St s L) (hs : s.length ≤ 100000) :
    ACall Tryd.prog 64 [pAV] [.c (pcl s (hdT L).2 (hdT L).1 o)] (NumR s L o) := by
  have hb := badNum_iff h
  obtain ⟨h1, h2, h3, h4, h5⟩ := h.hd
  refine ACall.enter tok false Tryd.func64 rfl rfl rfl (AW_sound (ip := false) tok _ _ _ _ ?_)
  conv => whnf
  refine ACall.mono (run_spec s (hdT L).1 (hdT L).2 o (hdT L).2 48 57 (by omega) h1) ?_; rintro r0 H0 ⟨rfl, rfl⟩
  conv => whnf
  have hlenr : (s.drop (hdT L).2).length = s.length - (hdT L).2 := List.length_drop
  by_cases hr : runB 48 57 (s.drop (hdT L).2) = 0
  · have c1 : (((runB 48 57 (s.drop (hdT L).2) : Nat) : Int) == 0) = true := by rw [hr]; rfl
    repeat (refine acond_t (c1) ?_; conv => whnf)
    refine ACall.mono (stop_spec s (hdT L).1 (hdT L).2 o 11) ?_; rintro r0 H0 ⟨rfl, rfl⟩
    conv => whnf
    exact .inl ⟨by rw [hb, hr]; rfl, rfl, _, rfl⟩
  · have c1 : (((runB 48 57 (s.drop (hdT L).2) : Nat) : Int) == 0) = false := by rw [beq_eq_false_iff_ne]; omega
    have hlr := runB_le 48 57 (s.drop (hdT L).2)
    have htl : (hdT L).1.length = runB 48 57 (s.drop (hdT L).2) := by rw [h2, List.length_take, tok_dig (by omega)]; omega
    have hdig : ∀ c ∈ (hdT L).1, 48 ≤ c.toNat ∧ c.toNat ≤ 57 := by
      rw [h2, tok_dig (by omega)]; exact runB_all 48 57 _
    have hne : (hdT L).1 ≠ [] := fun e => by rw [e] at htl; exact hr htl.symm
    repeat (refine acond_f (c1) ?_; conv => whnf)
    refine ⟨⟨by decide, by rw [sb_size]; omega⟩, ?_⟩
    conv => whnf
    repeat (refine acond_f (c1) ?_; conv => whnf)
    rw [decide_eq_false hr, Bool.false_or] at hb
    have fin : badNum (hdT L).1 = false → ACall Tryd.prog 70 [.s (sb (hdT L).1)] [] fun R H => (9223372036854775807 < valD (hdT L).1 ∧ R = .ret (.tup [.i .i64 (Lib.atoiSat (hdT L).1), .ifc 121 .un]) ∧ H = []) ∨ (¬ 9223372036854775807 < valD (hdT L).1 ∧ R = .ret (.tup [.i .i64 (valD (hdT L).1), .nili]) ∧ H = []) := by
      intro _
      have ha := atoi_dig hdig hne
      by_cases hv : 9223372036854775807 < valD (hdT L).1
      · rw [if_pos hv] at ha
        exact ACall.mono (atoi_range_spec (sb (hdT L).1) (by rw [sb_size]; omega) ha []) fun R H ⟨a, b⟩ => .inl ⟨hv, a, b⟩
      · rw [if_neg hv] at ha
        exact ACall.mono (atoi_ok_spec (sb (hdT L).1) (by rw [sb_size]; omega) _ ha []) fun R H ⟨a, b⟩ => .inr ⟨hv, a, b⟩
    have h48b : ((hdT L).1.getD 0 0 == 48) = decide ((((hdT L).1.getD 0 0).toNat : Int) = 48) := by
      rw [Bool.eq_iff_iff, beq_iff_eq, decide_eq_true_iff, ← UInt8.toNat_inj]
      show _ = 48 ↔ _
      omega
    by_cases h48 : (((hdT L).1.getD 0 0).toNat : Int) = 48
    · have c2 : (((((sb (hdT L).1).data.toList.getD (0 : Int).toNat 0).toNat : Nat) : Int) == 48) = true := by
        rw [beq_iff_eq]; exact h48
      repeat (first | (refine acond_f (c1) ?_; conv => whnf) | (refine acond_t (c2) ?_; conv => whnf))
      rw [h48b, decide_eq_true h48, Bool.true_and] at hb
      by_cases h1l : (((sb (hdT L).1).size : Nat) : Int) > 1
      · repeat (first | (refine acond_f (c1) ?_; conv => whnf) | (refine acond_t (c2) ?_; conv => whnf) | (refine acond_t (decide_eq_true h1l) ?_; conv => whnf))
        refine ACall.mono (stop_spec s (hdT L).1 (hdT L).2 o 11) ?_; rintro r0 H0 ⟨rfl, rfl⟩
        conv => whnf
        rw [sb_size] at h1l
        exact .inl ⟨by rw [hb, decide_eq_true (by omega)], rfl, _, rfl⟩
      · repeat (first | (refine acond_f (c1) ?_; conv => whnf) | (refine acond_t (c2) ?_; conv => whnf) | (refine acond_f (decide_eq_false h1l) ?_; conv => whnf))
        rw [sb_size] at h1l
        have hbf : badNum (hdT L).1 = false := by rw [hb, decide_eq_false (by omega)]
        refine ACall.frameH [] [] rfl (args' := [.s (sb (hdT L).1)]) (Hc := []) rfl rfl (fin hbf) ?_
        rintro r0 H0 (⟨hv, rfl, rfl⟩ | ⟨hv, rfl, rfl⟩)
        · refine ⟨.inl rfl, [.c (pcl s (hdT L).2 (hdT L).1 o)], rfl, ?_⟩
          conv => whnf
          refine ACall.mono (stop_spec s (hdT L).1 (hdT L).2 o 10) ?_; rintro r0 H0 ⟨rfl, rfl⟩
          conv => whnf
          exact .inr (.inl ⟨hbf, hv, rfl, _, rfl⟩)
        · refine ⟨.inl rfl, [.c (pcl s (hdT L).2 (hdT L).1 o)], rfl, ?_⟩
          conv => whnf
          refine ACall.mono (next_at h hne hs) ?_
          rintro r0 H0 (⟨k1, rfl, cs, rfl⟩ | ⟨k1, rfl, rfl, k2⟩)
          · conv => whnf
            exact .inr (.inr (.inl ⟨hbf, hv, k1, rfl, cs, rfl⟩))
          · conv => whnf
            exact .inr (.inr (.inr ⟨hbf, hv, k1, rfl, rfl, k2⟩))
    · have c2 : (((((sb (hdT L).1).data.toList.getD (0 : Int).toNat 0).toNat : Nat) : Int) == 48) = false := by
        rw [beq_eq_false_iff_ne]; exact h48
      repeat (first | (refine acond_f (c1) ?_; conv => whnf) | (refine acond_f (c2) ?_; conv => whnf))
      have hbf : badNum (hdT L).1 = false := by rw [hb, h48b, decide_eq_false h48]; rfl
      refine ACall.frameH [] [] rfl (args' := [.s (sb (hdT L).1)]) (Hc := []) rfl rfl (fin hbf) ?_
      rintro r0 H0 (⟨hv, rfl, rfl⟩ | ⟨hv, rfl, rfl⟩)
      · refine ⟨.inl rfl, [.c (pcl s (hdT L).2 (hdT L).1 o)], rfl, ?_⟩
        conv => whnf
        refine ACall.mono (stop_spec s (hdT L).1 (hdT L).2 o 10) ?_; rintro r0 H0 ⟨rfl, rfl⟩
        conv => whnf
        exact .inr (.inl ⟨hbf, hv, rfl, _, rfl⟩)
      · refine ⟨.inl rfl, [.c (pcl s (hdT L).2 (hdT L).1 o)], rfl, ?_⟩
        conv => whnf
        refine ACall.mono (next_at h hne hs) ?_
        rintro r0 H0 (⟨k1, rfl, cs, rfl⟩ | ⟨k1, rfl, rfl, k2⟩)
        · conv => whnf
          exact .inr (.inr (.inl ⟨hbf, hv, k1, rfl, cs, rfl⟩))
        · conv => whnf
          exact .inr (.inr (.inr ⟨hbf, hv, k1, rfl, rfl, k2⟩))
end Go.AK
namespace Go.AK
open Go Go.RowKit Go.Proofs
set_option linter.unusedVariables false
set_option maxRecDepth 100000
/-- What a parser's call comes to. -/
def PK (s : Str) (o : Int) (r : PR) (R : ARes) (H : Heap) : Prop := match r with
  | .out => False
  | .err p e => R = .pan (wrAV p e) ∧ ∃ cs, H = [.c cs]
  | .ok x L => R = .ret x.av ∧ H = [.c (pcl s (hdT L).2 (hdT L).1 o)] ∧ St s L
theorem PK.cases {s : Str} {o : Int} {r : PR} {R : ARes} {H : Heap} (h : PK s o r R H) :
    (∃ p e, r = .err p e ∧ R = .pan (wrAV p e) ∧ ∃ cs, H = [.c cs]) ∨ (∃ x L, r = .ok x L ∧ R = .ret x.av ∧ H = [.c (pcl s (hdT L).2 (hdT L).1 o)] ∧ St s L) := by
  cases r with
  | out => exact h.elim
  | err p e => exact .inl ⟨p, e, rfl, h⟩
  | ok x L => exact .inr ⟨x, L, rfl, h⟩
def Spec (s : Str) (fn f : Nat) (m : Md) : Prop := ∀ (o : Nat) (L : List Tok), o ≤ 64 → St s L → pp true f m o L ≠ .out →
  ACall Tryd.prog fn [pAV] [.c (pcl s (hdT L).2 (hdT L).1 o)] (PK s o (pp true f m o L))
theorem nxt_bad {L : List Tok} {k : List Tok → PR} (h : (hdT L.tail).1 = [63]) : nxt true L k = .err (hdT L.tail).2 11 := by
  unfold nxt; rw [if_pos ⟨rfl, h⟩]
theorem nxt_ok {L : List Tok} {k : List Tok → PR} (h : (hdT L.tail).1 ≠ [63]) : nxt true L k = k L.tail := by
  unfold nxt; rw [if_neg (fun e => h e.2)]
theorem not_step {s : Str} {f : Nat} (hs : s.length ≤ 100000) (ihn : Spec s 51 f .not) (iho : Spec s 60 f .opd) :
    Spec s 51 (f + 1) .not := by
  intro o L ho hS hout
  have he : pp true (f + 1) .not o L = if (hdT L).1 = wNot then nxt true L fun L => (pp true f .not o L).bind fun x L => .ok (.nd 1 [] [] 0 x .nil) L else pp true f .opd o L := rfl
  generalize pp true (f + 1) .not o L = r at he hout ⊢
  refine ACall.gh ?_
  refine ACall.enter tok false Tryd.func51 rfl rfl rfl (AW_sound (ip := false) tok _ _ _ _ ?_)
  conv => whnf
  refine ACall.mono (take_spec wNot hS (by decide) hs) ?_
  rintro R H (⟨k1, rfl, rfl⟩ | ⟨k1, k2, rfl, cs, rfl⟩ | ⟨k1, k2, rfl, rfl, k3⟩)
  · rw [if_neg k1] at he
    conv => whnf
    refine ACall.mono (iho o L ho hS (he ▸ hout)) ?_
    intro R H hP
    rcases hP.cases with ⟨p, e, hr, rfl, cs, rfl⟩ | ⟨x, L', hr, rfl, rfl, hS'⟩
    · rw [hr] at he; subst he
      conv => whnf
      exact GhR.of ⟨rfl, cs, rfl⟩
    · rw [hr] at he; subst he
      conv => whnf
      exact GhR.of ⟨rfl, rfl, hS'⟩
  · rw [if_pos k1, nxt_bad k2] at he
    subst he
    conv => whnf
    exact GhR.of ⟨rfl, cs, rfl⟩
  · rw [if_pos k1, nxt_ok k2] at he
    conv => whnf
    refine ACall.mono (ihn o L.tail ho k3 (fun e => hout (by rw [he, e]; rfl))) ?_
    intro R H hP
    rcases hP.cases with ⟨p, e, hr, rfl, cs, rfl⟩ | ⟨x, L', hr, rfl, rfl, hS'⟩
    · rw [hr] at he; subst he
      conv => whnf
      exact GhR.of ⟨rfl, cs, rfl⟩
    · rw [hr] at he
      subst he
      have hx := sub_av
      cases x <;> (
        conv => whnf
        refine GhR.frz 1 rfl (GhR.sel [0] rfl (GhR.of ⟨?_, rfl, hS'⟩))
        show ARes.ret (.rp [.i .i64 1, .s (sb []), .s (sb []), .i .i64 0, sub _ (Ex.av _), .p none] 0) = _
        simp only [sub_av]; rfl)
theorem and_step {s : Str} {f : Nat} (hs : s.length ≤ 100000) (ih : ∀ g, g ≤ f → Spec s 51 g .not) :
    Spec s 40 (f + 1) .and := by
  intro o L ho hS hout
  have he : pp true (f + 1) .and o L = (pp true f .not o L).bind fun x L => pp true f (.andL x) o L := rfl
  generalize pp true (f + 1) .and o L = r at he hout ⊢
  refine ACall.gh ?_
  refine ACall.enter tok false Tryd.func40 rfl rfl rfl (AW_sound (ip := false) tok _ _ _ _ ?_)
  conv => whnf
  refine ACall.mono (ih f (Nat.le_refl _) o L ho hS (fun e => hout (by rw [he, e]; rfl))) ?_
  intro R H hP
  rcases hP.cases with ⟨p, e, hr, rfl, cs, rfl⟩ | ⟨x0, L0, hr, rfl, rfl, hS0⟩
  · rw [hr] at he; subst he
    conv => whnf
    exact GhR.of ⟨rfl, cs, rfl⟩
  rw [hr] at he
  replace he : r = pp true f (.andL x0) o L0 := he
  conv => whnf
  refine ALoop.ind (ip := false) tok (fun m r1 H => ∃ (g : Nat) (x : Ex) (L : List Tok), m = g ∧ g ≤ f ∧ r = pp true g (.andL x) o L ∧ St s L ∧ H = [.c (pcl s (hdT L).2 (hdT L).1 o)] ∧
    r1 = [(3, x.av), (0, pAV), (2, .p none)]) f ?_ ?_
  · exact Gh.regs [3, 0, 2] (Gh.of ⟨f, x0, L0, rfl, Nat.le_refl _, he, hS0, rfl, rfl⟩)
  · rintro m r1 H ⟨g, x, L, rfl, hg, he, hS, rfl, rfl⟩
    conv => whnf
    refine ACall.mono (take_spec wAnd hS (by decide) hs) ?_
    cases m with
    | zero => exact absurd he hout
    | succ g =>
    replace he : r = if (hdT L).1 = wAnd then nxt true L fun L => (pp true g .not o L).bind fun y L => pp true g (.andL (.nd 2 [] [] 0 x y)) o L else .ok x L := he
    rintro R H (⟨k1, rfl, rfl⟩ | ⟨k1, k2, rfl, cs, rfl⟩ | ⟨k1, k2, rfl, rfl, k3⟩)
    · rw [if_neg k1] at he
      subst he
      conv => whnf
      exact GhR.of ⟨rfl, rfl, hS⟩
    · rw [if_pos k1, nxt_bad k2] at he
      subst he
      conv => whnf
      exact GhR.of ⟨rfl, cs, rfl⟩
    · rw [if_pos k1, nxt_ok k2] at he
      conv => whnf
      refine ACall.mono (ih g (by omega) o L.tail ho k3 (fun e => hout (by rw [he, e]; rfl))) ?_
      intro R H hP
      rcases hP.cases with ⟨p, e, hr, rfl, cs, rfl⟩ | ⟨y, L', hr, rfl, rfl, hS'⟩
      · rw [hr] at he
        subst he
        conv => whnf
        exact GhR.of ⟨rfl, cs, rfl⟩
      · rw [hr] at he
        replace he : r = pp true g (.andL (.nd 2 [] [] 0 x y)) o L' := he
        cases x <;> cases y <;> (
          conv => whnf
          refine Gh.regs [3, 0, 2] (Gh.frz 1 rfl (Gh.sel [0] rfl (Gh.of ⟨g, by omega, g, _, L', rfl, by omega, he, hS', rfl, ?_⟩)))
          show [(3, AV.rp [.i .i64 2, .s (sb []), .s (sb []), .i .i64 0, sub _ (Ex.av _), sub _ (Ex.av _)] 0), (0, pAV), (2, AV.p none)] = _
          simp only [sub_av]; rfl)
theorem or_step {s : Str} {f : Nat} (hs : s.length ≤ 100000) (ih : ∀ g, g ≤ f → Spec s 40 g .and) :
    Spec s 26 (f + 1) .or := by
  intro o L ho hS hout
  have he : pp true (f + 1) .or o L = (pp true f .and o L).bind fun x L => pp true f (.orL x) o L := rfl
  generalize pp true (f + 1) .or o L = r at he hout ⊢
  refine ACall.gh ?_
  refine ACall.enter tok false Tryd.func26 rfl rfl rfl (AW_sound (ip := false) tok _ _ _ _ ?_)
  conv => whnf
  refine ACall.mono (ih f (Nat.le_refl _) o L ho hS (fun e => hout (by rw [he, e]; rfl))) ?_
  intro R H hP
  rcases hP.cases with ⟨p, e, hr, rfl, cs, rfl⟩ | ⟨x0, L0, hr, rfl, rfl, hS0⟩
  · rw [hr] at he; subst he
    conv => whnf
    exact GhR.of ⟨rfl, cs, rfl⟩
  rw [hr] at he
  replace he : r = pp true f (.orL x0) o L0 := he
  conv => whnf
  refine ALoop.ind (ip := false) tok (fun m r1 H => ∃ (g : Nat) (x : Ex) (L : List Tok), m = g ∧ g ≤ f ∧ r = pp true g (.orL x) o L ∧ St s L ∧ H = [.c (pcl s (hdT L).2 (hdT L).1 o)] ∧
    r1 = [(3, x.av), (0, pAV), (2, .p none)]) f ?_ ?_
  · exact Gh.regs [3, 0, 2] (Gh.of ⟨f, x0, L0, rfl, Nat.le_refl _, he, hS0, rfl, rfl⟩)
  · rintro m r1 H ⟨g, x, L, rfl, hg, he, hS, rfl, rfl⟩
    conv => whnf
    refine ACall.mono (take_spec wOr hS (by decide) hs) ?_
    cases m with
    | zero => exact absurd he hout
    | succ g =>
    replace he : r = if (hdT L).1 = wOr then nxt true L fun L => (pp true g .and o L).bind fun y L => pp true g (.orL (.nd 3 [] [] 0 x y)) o L else .ok x L := he
    rintro R H (⟨k1, rfl, rfl⟩ | ⟨k1, k2, rfl, cs, rfl⟩ | ⟨k1, k2, rfl, rfl, k3⟩)
    · rw [if_neg k1] at he
      subst he
      conv => whnf
      exact GhR.of ⟨rfl, rfl, hS⟩
    · rw [if_pos k1, nxt_bad k2] at he
      subst he
      conv => whnf
      exact GhR.of ⟨rfl, cs, rfl⟩
    · rw [if_pos k1, nxt_ok k2] at he
      conv => whnf
      refine ACall.mono (ih g (by omega) o L.tail ho k3 (fun e => hout (by rw [he, e]; rfl))) ?_
      intro R H hP
      rcases hP.cases with ⟨p, e, hr, rfl, cs, rfl⟩ | ⟨y, L', hr, rfl, rfl, hS'⟩
      · rw [hr] at he
        subst he
        conv => whnf
        exact GhR.of ⟨rfl, cs, rfl⟩
      · rw [hr] at he
        replace he : r = pp true g (.orL (.nd 3 [] [] 0 x y)) o L' := he
        cases x <;> cases y <;> (
          conv => whnf
          refine Gh.regs [3, 0, 2] (Gh.frz 1 rfl (Gh.sel [0] rfl (Gh.of ⟨g, by omega, g, _, L', rfl, by omega, he, hS', rfl, ?_⟩)))
          show [(3, AV.rp [.i .i64 3, .s (sb []), .s (sb []), .i .i64 0, sub _ (Ex.av _), sub _ (Ex.av _)] 0), (0, pAV), (2, AV.p none)] = _
          simp only [sub_av]; rfl)
end Go.AK
namespace Go.AK
open Go Go.RowKit Go.Proofs
set_option linter.unusedVariables false
set_option maxRecDepth 100000
theorem ACall.heq {P : Program} {f : Nat} {args : List AV} {H H' : Heap} {K : ARes → Heap → Prop} (e : H = H') (h : ACall P f args H' K) : ACall P f args H K := by
  subst e; exact h
theorem isWord_iff {s : Str} {L : List Tok} (h : St s L) : decide (((runB 97 122 (s.drop (hdT L).2) : Nat) : Int) > 0) = isWord (hdT L).1 := by
  obtain ⟨h1, h2, h3, h4, h5⟩ := h.hd
  generalize (hdT L).2 = p at *
  generalize (hdT L).1 = tk at *
  subst h2
  generalize s.drop p = r at *
  cases r with
  | nil => rfl
  | cons c r =>
    have h6 := h3 (by simp)
    cases hm : tokLen (c :: r) with
    | zero => exact absurd hm h6
    | succ m =>
      rw [List.take_succ_cons]
      have e1 : runB 97 122 (c :: r) = (if 97 ≤ c.toNat ∧ c.toNat ≤ 122 then runB 97 122 r + 1 else 0) := rfl
      simp only [isWord, isLet]
      by_cases hd : 97 ≤ c.toNat ∧ c.toNat ≤ 122
      · rw [decide_eq_true (by rw [e1, if_pos hd]; omega), decide_eq_true hd.1, decide_eq_true hd.2]; rfl
      · rw [decide_eq_false (by rw [e1, if_neg hd]; omega)]
        symm
        rw [Bool.and_eq_false_iff, decide_eq_false_iff_not, decide_eq_false_iff_not]; omega
theorem opd_step {s : Str} {f : Nat} (hs : s.length ≤ 100000) (iho : Spec s 26 f .or) :
    Spec s 60 (f + 1) .opd := by
  intro o L ho hS hout
  have he : pp true (f + 1) .opd o L = (
    if (hdT L).1 = [40] then
      if o = 64 then .err (hdT L).2 12
      else nxt true L fun L => (pp true f .or (o + 1) L).bind fun x L => if (hdT L).1 = [41] then nxt true L fun L => .ok x L else .err (hdT L).2 11
    else if (hdT L).1 = wTrue ∨ (hdT L).1 = wFalse then nxt true L fun L' => .ok (.nd (if (hdT L).1 = wTrue then 6 else 7) [] [] 0 .nil .nil) L'
    else if flagsL.contains (hdT L).1 = true then nxt true L fun L' => .ok (.nd 5 (hdT L).1 [] 0 .nil .nil) L'
    else if numbersL.contains (hdT L).1 = true then
      nxt true L fun L1 => if opsL.contains (hdT L1).1 = true then nxt true L1 fun L2 => pnum true L2 fun n L3 => .ok (.nd 4 (hdT L).1 (hdT L1).1 n .nil .nil) L3 else .err (hdT L1).2 11
    else if isWord (hdT L).1 = true ∧ (hdT L).1 ≠ wAnd ∧ (hdT L).1 ≠ wOr then .err (hdT L).2 21 else .err (hdT L).2 11) := rfl
  generalize pp true (f + 1) .opd o L = r at he hout ⊢
  refine ACall.gh ?_
  refine ACall.enter tok false Tryd.func60 rfl rfl rfl (AW_sound (ip := false) tok _ _ _ _ ?_)
  conv => whnf
  by_cases c1 : (hdT L).1 = [40]
  · have b1 : ((hdT L).1 == [40]) = true := by rw [c1]; rfl
    rw [if_pos c1] at he
    repeat (first | (refine acond_t (b1) ?_; conv => whnf))
    by_cases c2 : o = 64
    · have b2 : (((o : Nat) : Int) == 64) = true := by rw [c2]; rfl
      rw [if_pos c2] at he
      subst he
      repeat (first | (refine acond_t (b2) ?_; conv => whnf))
      refine ACall.mono (stop_spec s (hdT L).1 (hdT L).2 o 12) ?_; rintro r0 H0 ⟨rfl, rfl⟩
      conv => whnf
      exact GhR.of ⟨rfl, _, rfl⟩
    · have b2 : (((o : Nat) : Int) == 64) = false := by rw [beq_eq_false_iff_ne]; omega
      rw [if_neg c2] at he
      have hw1 : IntKind.i64.wrap ((o : Int) + 1) = ((o + 1 : Nat) : Int) := by rw [IntKind.wrap_i64]; omega
      have hw2 : IntKind.i64.wrap (((o + 1 : Nat) : Int) - 1) = (o : Int) := by rw [IntKind.wrap_i64]; omega
      repeat (first | (refine acond_f (b2) ?_; conv => whnf))
      refine ⟨Nat.le_of_ble_eq_true rfl, ?_⟩
      conv => whnf
      refine ACall.heq (H' := [.c (pcl s (hdT L).2 (hdT L).1 ((o + 1 : Nat) : Int))]) (by show [Blk.c [_, _, _, .i .i64 (IntKind.i64.wrap _)]] = _; rw [hw1]; rfl) ?_
      refine ACall.mono (next_at hS (by rw [c1]; decide) hs) ?_
      rintro R H (⟨k1, rfl, cs, rfl⟩ | ⟨k1, rfl, rfl, hS1⟩)
      · rw [nxt_bad k1] at he; subst he
        conv => whnf
        exact GhR.of ⟨rfl, cs, rfl⟩
      rw [nxt_ok k1] at he
      conv => whnf
      refine ACall.mono (iho (o + 1) L.tail (by omega) hS1 (fun e => hout (by rw [he, e]; rfl))) ?_
      intro R H hP
      rcases hP.cases with ⟨p, e, hr, rfl, cs, rfl⟩ | ⟨x, L2, hr, rfl, rfl, hS2⟩
      · rw [hr] at he; subst he
        conv => whnf
        exact GhR.of ⟨rfl, cs, rfl⟩
      rw [hr] at he
      replace he : r = if (hdT L2).1 = [41] then nxt true L2 fun L => .ok x L else .err (hdT L2).2 11 := he
      conv => whnf
      by_cases c3 : (hdT L2).1 = [41]
      · have b3 : (!((hdT L2).1 == [41])) = false := by rw [c3]; rfl
        rw [if_pos c3] at he
        repeat (first | (refine acond_f (b3) ?_; conv => whnf))
        refine ⟨Nat.le_of_ble_eq_true rfl, ?_⟩
        conv => whnf
        refine ACall.heq (H' := [.c (pcl s (hdT L2).2 (hdT L2).1 o)]) (by show [Blk.c [_, _, _, .i .i64 (IntKind.i64.wrap _)]] = _; rw [hw2]; rfl) ?_
        refine ACall.mono (next_at hS2 (by rw [c3]; decide) hs) ?_
        rintro R H (⟨k1, rfl, cs, rfl⟩ | ⟨k1, rfl, rfl, hS3⟩)
        · rw [nxt_bad k1] at he; subst he
          conv => whnf
          exact GhR.of ⟨rfl, cs, rfl⟩
        · rw [nxt_ok k1] at he; subst he
          conv => whnf
          exact GhR.of ⟨rfl, rfl, hS3⟩
      · have b3 : (!((hdT L2).1 == [41])) = true := by simpa using c3
        rw [if_neg c3] at he
        subst he
        repeat (first | (refine acond_t (b3) ?_; conv => whnf))
        refine ACall.mono (stop_spec s (hdT L2).1 (hdT L2).2 _ 11) ?_; rintro r0 H0 ⟨rfl, rfl⟩
        conv => whnf
        exact GhR.of ⟨rfl, _, rfl⟩
  have b1 : ((hdT L).1 == [40]) = false := by simpa using c1
  rw [if_neg c1] at he
  repeat (first | (refine acond_f (b1) ?_; conv => whnf))
  by_cases c2 : (hdT L).1 = wTrue ∨ (hdT L).1 = wFalse
  · rw [if_pos c2] at he
    have hne : (hdT L).1 ≠ [] := by rcases c2 with e | e <;> rw [e] <;> decide
    by_cases c3 : (hdT L).1 = wTrue
    · have b3 : ((hdT L).1 == wTrue) = true := by rw [c3]; rfl
      repeat (first | (refine acond_t (b3) ?_; conv => whnf))
      refine ACall.mono (next_at hS hne hs) ?_
      rintro R H (⟨k1, rfl, cs, rfl⟩ | ⟨k1, rfl, rfl, hS1⟩)
      · rw [nxt_bad k1] at he; subst he
        conv => whnf
        exact GhR.of ⟨rfl, cs, rfl⟩
      · rw [nxt_ok k1, if_pos c3] at he; subst he
        conv => whnf
        repeat (first | (refine acond_t (b3) ?_; conv => whnf))
        exact GhR.frz 2 rfl (GhR.sel [0] rfl (GhR.of ⟨rfl, rfl, hS1⟩))
    · have c4 : (hdT L).1 = wFalse := c2.resolve_left c3
      have b3 : ((hdT L).1 == wTrue) = false := by simpa using c3
      have b4 : ((hdT L).1 == wFalse) = true := by rw [c4]; rfl
      repeat (first | (refine acond_f (b3) ?_; conv => whnf) | (refine acond_t (b4) ?_; conv => whnf))
      refine ACall.mono (next_at hS hne hs) ?_
      rintro R H (⟨k1, rfl, cs, rfl⟩ | ⟨k1, rfl, rfl, hS1⟩)
      · rw [nxt_bad k1] at he; subst he
        conv => whnf
        exact GhR.of ⟨rfl, cs, rfl⟩
      · rw [nxt_ok k1, if_neg c3] at he; subst he
        conv => whnf
        repeat (first | (refine acond_f (b3) ?_; conv => whnf) | (refine acond_t (b4) ?_; conv => whnf))
        exact GhR.frz 2 rfl (GhR.sel [0] rfl (GhR.of ⟨rfl, rfl, hS1⟩))
  rw [if_neg c2] at he
  have b2 : ((hdT L).1 == wTrue) = false := by simpa using fun e => c2 (.inl e)
  have b3 : ((hdT L).1 == wFalse) = false := by simpa using fun e => c2 (.inr e)
  repeat (first | (refine acond_f (b2) ?_; conv => whnf) | (refine acond_f (b3) ?_; conv => whnf))
  refine ACall.frameH [] [] rfl (args' := []) (Hc := []) rfl rfl flags_spec ?_
  rintro r0 H0 ⟨rfl, rfl⟩
  refine ⟨.inl rfl, [.c (pcl s (hdT L).2 (hdT L).1 o)], rfl, ?_⟩
  conv => whnf
  refine ACall.frameH [] [] rfl (args' := [.rs (strs flagsL) 0 1 flagsL.length, .s (sb (hdT L).1)]) (Hc := []) rfl rfl (contains_spec flagsL (hdT L).1 (by decide)) ?_
  rintro r0 H0 ⟨rfl, rfl⟩
  refine ⟨.inl rfl, [.c (pcl s (hdT L).2 (hdT L).1 o)], rfl, ?_⟩
  conv => whnf
  by_cases c3 : flagsL.contains (hdT L).1 = true
  · rw [if_pos c3] at he
    repeat (first | (refine acond_t (c3) ?_; conv => whnf))
    have hne : (hdT L).1 ≠ [] := fun e => by rw [e] at c3; exact absurd c3 (by decide)
    refine ACall.mono (next_at hS hne hs) ?_
    rintro R H (⟨k1, rfl, cs, rfl⟩ | ⟨k1, rfl, rfl, hS1⟩)
    · rw [nxt_bad k1] at he; subst he
      conv => whnf
      exact GhR.of ⟨rfl, cs, rfl⟩
    rw [nxt_ok k1] at he
    conv => whnf
    subst he
    exact GhR.frz 1 rfl (GhR.sel [0] rfl (GhR.of ⟨rfl, rfl, hS1⟩))
  rw [if_neg c3] at he
  repeat (first | (refine acond_f (Bool.eq_false_iff.2 c3) ?_; conv => whnf))
  refine ACall.frameH [] [] rfl (args' := []) (Hc := []) rfl rfl numbers_spec ?_
  rintro r0 H0 ⟨rfl, rfl⟩
  refine ⟨.inl rfl, [.c (pcl s (hdT L).2 (hdT L).1 o)], rfl, ?_⟩
  conv => whnf
  refine ACall.frameH [] [] rfl (args' := [.rs (strs numbersL) 0 1 numbersL.length, .s (sb (hdT L).1)]) (Hc := []) rfl rfl (contains_spec numbersL (hdT L).1 (by decide)) ?_
  rintro r0 H0 ⟨rfl, rfl⟩
  refine ⟨.inl rfl, [.c (pcl s (hdT L).2 (hdT L).1 o)], rfl, ?_⟩
  conv => whnf
  by_cases c4 : numbersL.contains (hdT L).1 = true
  · rw [if_pos c4] at he
    repeat (first | (refine acond_t (c4) ?_; conv => whnf))
    have hne : (hdT L).1 ≠ [] := fun e => by rw [e] at c4; exact absurd c4 (by decide)
    refine ACall.mono (next_at hS hne hs) ?_
    rintro R H (⟨k1, rfl, cs, rfl⟩ | ⟨k1, rfl, rfl, hS1⟩)
    · rw [nxt_bad k1] at he; subst he
      conv => whnf
      exact GhR.of ⟨rfl, cs, rfl⟩
    rw [nxt_ok k1] at he
    conv => whnf
    refine ACall.frameH [] [] rfl (args' := []) (Hc := []) rfl rfl ops_spec ?_
    rintro r0 H0 ⟨rfl, rfl⟩
    refine ⟨.inl rfl, [.c (pcl s (hdT L.tail).2 (hdT L.tail).1 o)], rfl, ?_⟩
    conv => whnf
    refine ACall.frameH [] [] rfl (args' := [.rs (strs opsL) 0 1 opsL.length, .s (sb (hdT L.tail).1)]) (Hc := []) rfl rfl (contains_spec opsL (hdT L.tail).1 (by decide)) ?_
    rintro r0 H0 ⟨rfl, rfl⟩
    refine ⟨.inl rfl, [.c (pcl s (hdT L.tail).2 (hdT L.tail).1 o)], rfl, ?_⟩
    conv => whnf
    by_cases c5 : opsL.contains (hdT L.tail).1 = true
    · rw [if_pos c5] at he
      have b5 : (!(opsL.contains (hdT L.tail).1)) = false := by rw [c5]; rfl
      repeat (first | (refine acond_f (b5) ?_; conv => whnf))
      have hne1 : (hdT L.tail).1 ≠ [] := fun e => by rw [e] at c5; exact absurd c5 (by decide)
      refine ACall.mono (next_at hS1 hne1 hs) ?_
      rintro R H (⟨k1, rfl, cs, rfl⟩ | ⟨k1, rfl, rfl, hS2⟩)
      · rw [nxt_bad k1] at he; subst he
        conv => whnf
        exact GhR.of ⟨rfl, cs, rfl⟩
      rw [nxt_ok k1] at he
      conv => whnf
      refine ACall.mono (number_spec hS2 hs) ?_
      rintro R H (⟨d1, rfl, cs, rfl⟩ | ⟨d1, d2, rfl, cs, rfl⟩ | ⟨d1, d2, d3, rfl, cs, rfl⟩ | ⟨d1, d2, d3, rfl, rfl, hS3⟩)
      · rw [pnum, if_pos d1] at he; subst he
        conv => whnf
        exact GhR.of ⟨rfl, cs, rfl⟩
      · rw [pnum, if_neg (by rw [d1]; decide), if_pos d2] at he; subst he
        conv => whnf
        exact GhR.of ⟨rfl, cs, rfl⟩
      · rw [pnum, if_neg (by rw [d1]; decide), if_neg d2, nxt_bad d3] at he; subst he
        conv => whnf
        exact GhR.of ⟨rfl, cs, rfl⟩
      · rw [pnum, if_neg (by rw [d1]; decide), if_neg d2, nxt_ok d3] at he; subst he
        conv => whnf
        exact GhR.frz 1 rfl (GhR.sel [0] rfl (GhR.of ⟨rfl, rfl, hS3⟩))
    · rw [if_neg c5] at he
      have b5 : (!(opsL.contains (hdT L.tail).1)) = true := by rw [Bool.eq_false_iff.2 c5]; rfl
      repeat (first | (refine acond_t (b5) ?_; conv => whnf))
      subst he
      refine ACall.mono (stop_spec s (hdT L.tail).1 (hdT L.tail).2 o 11) ?_; rintro r0 H0 ⟨rfl, rfl⟩
      conv => whnf
      exact GhR.of ⟨rfl, _, rfl⟩
  rw [if_neg c4] at he
  repeat (first | (refine acond_f (Bool.eq_false_iff.2 c4) ?_; conv => whnf))
  refine ACall.mono (run_spec s (hdT L).1 (hdT L).2 o (hdT L).2 97 122 (by omega) hS.hd.1) ?_; rintro r0 H0 ⟨rfl, rfl⟩
  conv => whnf
  have hwd := isWord_iff hS
  by_cases c5 : isWord (hdT L).1 = true
  · rw [c5] at hwd
    by_cases c6 : (hdT L).1 = wAnd
    · have b6 : (!((hdT L).1 == wAnd)) = false := by rw [c6]; rfl
      rw [if_neg (fun e => e.2.1 c6)] at he
      repeat (first | (refine acond_t (hwd) ?_; conv => whnf) | (refine acond_f (b6) ?_; conv => whnf))
      subst he
      refine ACall.mono (stop_spec s (hdT L).1 (hdT L).2 o 11) ?_; rintro r0 H0 ⟨rfl, rfl⟩
      conv => whnf
      exact GhR.of ⟨rfl, _, rfl⟩
    · have b6 : (!((hdT L).1 == wAnd)) = true := by simpa using c6
      by_cases c7 : (hdT L).1 = wOr
      · have b7 : (!((hdT L).1 == wOr)) = false := by rw [c7]; rfl
        rw [if_neg (fun e => e.2.2 c7)] at he
        repeat (first | (refine acond_t (hwd) ?_; conv => whnf) | (refine acond_t (b6) ?_; conv => whnf) | (refine acond_f (b7) ?_; conv => whnf))
        subst he
        refine ACall.mono (stop_spec s (hdT L).1 (hdT L).2 o 11) ?_; rintro r0 H0 ⟨rfl, rfl⟩
        conv => whnf
        exact GhR.of ⟨rfl, _, rfl⟩
      · have b7 : (!((hdT L).1 == wOr)) = true := by simpa using c7
        rw [if_pos ⟨c5, c6, c7⟩] at he
        repeat (first | (refine acond_t (hwd) ?_; conv => whnf) | (refine acond_t (b6) ?_; conv => whnf) | (refine acond_t (b7) ?_; conv => whnf))
        subst he
        refine ACall.mono (stop_spec s (hdT L).1 (hdT L).2 o 21) ?_; rintro r0 H0 ⟨rfl, rfl⟩
        conv => whnf
        exact GhR.of ⟨rfl, _, rfl⟩
  · rw [Bool.eq_false_iff.2 c5] at hwd
    rw [if_neg (fun e => c5 e.1)] at he
    repeat (first | (refine acond_f (hwd) ?_; conv => whnf))
    subst he
    refine ACall.mono (stop_spec s (hdT L).1 (hdT L).2 o 11) ?_; rintro r0 H0 ⟨rfl, rfl⟩
    conv => whnf
    exact GhR.of ⟨rfl, _, rfl⟩
end Go.AK
namespace Go.AK
open Go Go.RowKit Go.Proofs
set_option linter.unusedVariables false
set_option maxRecDepth 100000
/-! Trees of rows of nodes. -/
theorem subs_nods (l : List Nod) (φ : Nat → Sb) : subs φ (nods l) = nods l := by
  induction l with
  | nil => rfl
  | cons a l ih =>
    simp only [nods, List.flatMap_cons, Nod.cells, List.cons_append, List.nil_append, subs, sub] at ih ⊢
    rw [ih]
def bools (u : List Bool) : List AV := u.map .b
theorem bools_length (u : List Bool) : (bools u).length = u.length := by simp [bools]
theorem bools_set (u : List Bool) (i : Nat) (b : Bool) : (bools u).set i (.b b) = bools (u.set i b) := by simp [bools, List.map_set]
theorem aget_bool {u : List Bool} {i o : Nat} (ho : o = i) (h : i < u.length) {K : AV → Prop} (hk : K (.b (u.getD i false))) : aget (bools u) o K := by
  subst ho
  unfold aget
  rw [show (bools u)[o]? = some (.b (u.getD o false)) from by simp [bools, h, List.getD_eq_getElem?_getD]]
  exact hk
theorem subs_bools (φ : Nat → Sb) : ∀ u : List Bool, subs φ (bools u) = bools u
  | [] => rfl
  | b :: u => by
    have := subs_bools φ u
    simp only [bools, List.map_cons, subs, sub] at this ⊢; rw [this]
/-- May a place be a part's? -/
def freeB (n : Nat) (u : List Bool) (i : Nat) (j : Int) : Bool := decide ((i : Int) < j) && (decide (j < n) && !(u.getD j.toNat false))
def partF (l : List Nod) : Nat → List Bool → Nat → Ex × List Bool
  | 0, u, _ => (.nil, u)
  | f + 1, u, i =>
    if h : i < l.length then
      let a := l[i]
      let p := if freeB l.length u i a.l = true then partF l f (u.set a.l.toNat true) a.l.toNat else (.nil, u)
      let q := if freeB l.length p.2 i a.r = true then partF l f (p.2.set a.r.toNat true) a.r.toNat else (.nil, p.2)
      (.nd a.k a.w a.o a.n p.1 q.1, q.2)
    else (.nil, u)
theorem partF_len (l : List Nod) : ∀ (f : Nat) (u : List Bool) (i : Nat), (partF l f u i).2.length = u.length
  | 0, u, i => rfl
  | f + 1, u, i => by
    unfold partF
    by_cases h : i < l.length
    · rw [dif_pos h]
      have hp : ∀ (v : List Bool) (j : Int), (if freeB l.length v i j = true then partF l f (v.set j.toNat true) j.toNat else (.nil, v)).2.length = v.length := by
        intro v j
        split
        · rw [partF_len l f]; simp
        · rfl
      show (if freeB l.length _ i (l[i]).r = true then _ else _ : Ex × List Bool).2.length = _
      rw [hp, hp]
    · rw [dif_neg h]
theorem partF_nd {l : List Nod} {f i : Nat} {u : List Bool} (h : i < l.length) {p q : Ex × List Bool}
    (hp : p = if freeB l.length u i (l[i]).l = true then partF l f (u.set (l[i]).l.toNat true) (l[i]).l.toNat else (.nil, u))
    (hq : q = if freeB l.length p.2 i (l[i]).r = true then partF l f (p.2.set (l[i]).r.toNat true) (l[i]).r.toNat else (.nil, p.2)) :
    partF l (f + 1) u i = (.nd (l[i]).k (l[i]).w (l[i]).o (l[i]).n p.1 q.1, q.2) := by
  subst hq; subst hp
  rw [partF, dif_pos h]
theorem part_spec (l : List Nod) (hl : l.length < 1000000) : ∀ (f : Nat) (u : List Bool) (i : Nat), u.length = l.length → l.length < i + f →
    ACall Tryd.prog 31 [.rs (nods l) 0 6 l.length, .sl (some (0, 0)) 1 l.length l.length, .i .i64 i] [.c (bools u)] fun R H => R = .ret (partF l f u i).1.av ∧ H = [.c (bools (partF l f u i).2)]
  | 0, u, i, hu, hf => by
    refine ACall.enter tok false Tryd.func31 rfl rfl rfl (AW_sound (ip := false) tok _ _ _ _ ?_)
    conv => whnf
    repeat (first | (refine acond_t (decide_eq_true (show ((i : Nat) : Int) ≥ (l.length : Int) by omega)) ?_; conv => whnf))
    exact ⟨rfl, rfl⟩
  | f + 1, u, i, hu, hf => by
    by_cases hil : i < l.length
    · have hii : ¬ ((i : Nat) : Int) ≥ (l.length : Int) := by omega
      have ih := part_spec l hl f
      obtain ⟨p, hp⟩ : ∃ p, p = if freeB l.length u i (l[i]).l = true then partF l f (u.set (l[i]).l.toNat true) (l[i]).l.toNat else (.nil, u) := ⟨_, rfl⟩
      obtain ⟨q, hq⟩ : ∃ q, q = if freeB l.length p.2 i (l[i]).r = true then partF l f (p.2.set (l[i]).r.toNat true) (l[i]).r.toNat else (.nil, p.2) := ⟨_, rfl⟩
      have hP := partF_nd hil hp hq
      have hpl : p.2.length = l.length := by
        rw [hp]; split
        · rw [partF_len]; simp [hu]
        · exact hu
      have hsn : ∀ (φ : Nat → Sb), subs φ (nods l) = nods l := subs_nods l
      -- the calls of its parts, and what lies beside them
      have callL : ∀ (v : List Bool) (j : Int) (C : List AV) (x : Ex) (w2 : List Bool), v.length = l.length → (i : Int) < j → (x, w2) = partF l f v j.toNat → (∀ φ, subs φ C = C) →
          ACall Tryd.prog 31 [.rs (nods l) 0 6 l.length, .sl (some (0, 0)) 1 l.length l.length, .i .i64 j] [.c (bools v), .c C] fun R H => R = .ret x.av ∧ H = [.c (bools w2), .c C] := by
        intro v j C x w2 hv hj hx hC
        obtain ⟨J, rfl⟩ : ∃ J : Nat, j = (J : Int) := ⟨j.toNat, by omega⟩
        rw [Int.toNat_natCast] at hx
        refine ACall.frameH [0] [] rfl (args' := [.rs (nods l) 0 6 l.length, .sl (some (0, 0)) 1 l.length l.length, .i .i64 J]) (Hc := [.c (bools v)]) (by show [AV.rs (subs _ (nods l)) 0 6 l.length, _, _] = _; rw [hsn]; rfl) (by show [Blk.c (subs _ (bools v))] = _; rw [subs_bools]) (ih v J hv (by omega)) ?_
        rintro R H ⟨rfl, rfl⟩
        refine ⟨.inl rfl, [.c (bools w2), .c C], ?_, ?_, rfl⟩
        · show [Blk.c (subs _ (bools _)), Blk.c C] = _
          rw [subs_bools, ← hx]
        · rw [← hx]; exact congrArg ARes.ret (sub_av _ _)
      obtain ⟨x1, u1⟩ := p
      obtain ⟨x2, u2⟩ := q
      replace hq : (x2, u2) = if freeB l.length u1 i (l[i]).r = true then partF l f (u1.set (l[i]).r.toNat true) (l[i]).r.toNat else (.nil, u1) := hq
      replace hpl : u1.length = l.length := hpl
      have hset : ∀ (v : List Bool) (j : Int) (C : List AV), [Blk.c (setCells (bools v) (0 + j.toNat * 1) (AV.b true).cells), Blk.c C] = [.c (bools (v.set j.toNat true)), .c C] := by
        intro v j C
        show [Blk.c ((bools v).set (0 + j.toNat * 1) (.b true)), _] = _
        rw [Nat.zero_add, Nat.mul_one, bools_set]
      have hav : ∀ (x : Ex) (φ : Nat → Sb), sub φ x.av = x.av := fun x φ => sub_av φ x
      rw [hP]
      refine ACall.gh ?_
      refine ACall.enter tok false Tryd.func31 rfl rfl rfl (AW_sound (ip := false) tok _ _ _ _ ?_)
      conv => whnf
      repeat (first | (refine acond_f (decide_eq_false hii) ?_; conv => whnf))
      refine ADraw.of tok mixed false [0, 1, 2, 3, 4, 5, 6, 7, 8, 9, 10, 11, 12, 13, 14, 15, 16, 17, 18, 19, 20] [21, 22] (by kernel_rfl) (fun _ _ _ _ h => h) ?_
      conv => whnf
      refine ⟨⟨by omega, by omega⟩, ?_⟩
      conv => whnf
      refine aget_nod (i := i) (j := 0) (by omega) hil (by omega) ?_
      conv => whnf
      refine ⟨⟨by omega, by omega⟩, ?_⟩
      conv => whnf
      refine aget_nod (i := i) (j := 1) (by omega) hil (by omega) ?_
      conv => whnf
      refine ⟨⟨by omega, by omega⟩, ?_⟩
      conv => whnf
      refine aget_nod (i := i) (j := 2) (by omega) hil (by omega) ?_
      conv => whnf
      refine ⟨⟨by omega, by omega⟩, ?_⟩
      conv => whnf
      refine aget_nod (i := i) (j := 3) (by omega) hil (by omega) ?_
      conv => whnf
      refine ⟨⟨by omega, by omega⟩, ?_⟩
      conv => whnf
      refine aget_nod (i := i) (j := 4) (by omega) hil (by omega) ?_
      conv => whnf
      by_cases d41 : (l[i]).l > (i : Int)
      · repeat (first | (refine acond_t (decide_eq_true d41) ?_; conv => whnf))
        refine ⟨⟨by omega, by omega⟩, ?_⟩
        conv => whnf
        repeat (first | (refine acond_t (decide_eq_true d41) ?_; conv => whnf))
        refine aget_nod (i := i) (j := 4) (by omega) hil (by omega) ?_
        conv => whnf
        repeat (first | (refine acond_t (decide_eq_true d41) ?_; conv => whnf))
        by_cases d42 : (l[i]).l < (l.length : Int)
        · repeat (first | (refine acond_t (decide_eq_true d41) ?_; conv => whnf) | (refine acond_t (decide_eq_true d42) ?_; conv => whnf))
          refine ⟨⟨by omega, by omega⟩, ?_⟩
          conv => whnf
          repeat (first | (refine acond_t (decide_eq_true d41) ?_; conv => whnf) | (refine acond_t (decide_eq_true d42) ?_; conv => whnf))
          refine aget_nod (i := i) (j := 4) (by omega) hil (by omega) ?_
          conv => whnf
          repeat (first | (refine acond_t (decide_eq_true d41) ?_; conv => whnf) | (refine acond_t (decide_eq_true d42) ?_; conv => whnf))
          refine ⟨⟨by omega, by omega⟩, ?_⟩
          conv => whnf
          repeat (first | (refine acond_t (decide_eq_true d41) ?_; conv => whnf) | (refine acond_t (decide_eq_true d42) ?_; conv => whnf))
          refine aget_bool (i := (l[i]).l.toNat) (by omega) (by omega) ?_
          conv => whnf
          cases e4 : u.getD (l[i]).l.toNat false with
          | false =>
            repeat (first | (refine acond_t (decide_eq_true d41) ?_; conv => whnf) | (refine acond_t (decide_eq_true d42) ?_; conv => whnf) | (refine acond_t ((show (!false) = true from rfl)) ?_; conv => whnf))
            have hf4 : freeB l.length u i (l[i]).l = true := by unfold freeB; rw [decide_eq_true d41, decide_eq_true d42, e4]; rfl
            rw [if_pos hf4] at hp
            refine ⟨⟨by omega, by omega⟩, ?_⟩
            conv => whnf
            refine aget_nod (i := i) (j := 4) (by omega) hil (by omega) ?_
            conv => whnf
            refine ⟨⟨by omega, by omega⟩, ?_⟩
            conv => whnf
            refine ⟨by show 0 + (l[i]).l.toNat * 1 + 1 ≤ _; rw [bools_length]; omega, ?_⟩
            conv => whnf
            refine ⟨⟨by omega, by omega⟩, ?_⟩
            conv => whnf
            refine aget_nod (i := i) (j := 4) (by omega) hil (by omega) ?_
            conv => whnf
            refine ACall.heq (hset u (l[i]).l [.i .i64 (l[i]).k, .s (sb (l[i]).w), .s (sb (l[i]).o), .i .i64 (l[i]).n, .p none, .p none]) ?_
            refine ACall.mono (callL _ (l[i]).l [.i .i64 (l[i]).k, .s (sb (l[i]).w), .s (sb (l[i]).o), .i .i64 (l[i]).n, .p none, .p none] x1 u1 (by rw [List.length_set]; exact hu) d41 hp (fun φ => rfl)) ?_
            rintro R H ⟨rfl, rfl⟩
            cases x1 <;> (
              conv => whnf
              refine ⟨Nat.le_of_ble_eq_true rfl, ?_⟩
              conv => whnf
              refine ⟨⟨by omega, by omega⟩, ?_⟩
              conv => whnf
              refine aget_nod (i := i) (j := 5) (by omega) hil (by omega) ?_
              conv => whnf
              by_cases d51 : (l[i]).r > (i : Int)
              · repeat (first | (refine acond_t (decide_eq_true d51) ?_; conv => whnf))
                refine ⟨⟨by omega, by omega⟩, ?_⟩
                conv => whnf
                repeat (first | (refine acond_t (decide_eq_true d51) ?_; conv => whnf))
                refine aget_nod (i := i) (j := 5) (by omega) hil (by omega) ?_
                conv => whnf
                repeat (first | (refine acond_t (decide_eq_true d51) ?_; conv => whnf))
                by_cases d52 : (l[i]).r < (l.length : Int)
                · repeat (first | (refine acond_t (decide_eq_true d51) ?_; conv => whnf) | (refine acond_t (decide_eq_true d52) ?_; conv => whnf))
                  refine ⟨⟨by omega, by omega⟩, ?_⟩
                  conv => whnf
                  repeat (first | (refine acond_t (decide_eq_true d51) ?_; conv => whnf) | (refine acond_t (decide_eq_true d52) ?_; conv => whnf))
                  refine aget_nod (i := i) (j := 5) (by omega) hil (by omega) ?_
                  conv => whnf
                  repeat (first | (refine acond_t (decide_eq_true d51) ?_; conv => whnf) | (refine acond_t (decide_eq_true d52) ?_; conv => whnf))
                  refine ⟨⟨by omega, by omega⟩, ?_⟩
                  conv => whnf
                  repeat (first | (refine acond_t (decide_eq_true d51) ?_; conv => whnf) | (refine acond_t (decide_eq_true d52) ?_; conv => whnf))
                  refine aget_bool (i := (l[i]).r.toNat) (by omega) (by omega) ?_
                  conv => whnf
                  cases e5 : u1.getD (l[i]).r.toNat false with
                  | false =>
                    repeat (first | (refine acond_t (decide_eq_true d51) ?_; conv => whnf) | (refine acond_t (decide_eq_true d52) ?_; conv => whnf) | (refine acond_t ((show (!false) = true from rfl)) ?_; conv => whnf))
                    have hf5 : freeB l.length u1 i (l[i]).r = true := by unfold freeB; rw [decide_eq_true d51, decide_eq_true d52, e5]; rfl
                    rw [if_pos hf5] at hq
                    refine ⟨⟨by omega, by omega⟩, ?_⟩
                    conv => whnf
                    refine aget_nod (i := i) (j := 5) (by omega) hil (by omega) ?_
                    conv => whnf
                    refine ⟨⟨by omega, by omega⟩, ?_⟩
                    conv => whnf
                    refine ⟨by show 0 + (l[i]).r.toNat * 1 + 1 ≤ _; rw [bools_length]; omega, ?_⟩
                    conv => whnf
                    refine ⟨⟨by omega, by omega⟩, ?_⟩
                    conv => whnf
                    refine aget_nod (i := i) (j := 5) (by omega) hil (by omega) ?_
                    conv => whnf
                    refine ACall.heq (hset u1 (l[i]).r [.i .i64 (l[i]).k, .s (sb (l[i]).w), .s (sb (l[i]).o), .i .i64 (l[i]).n, Ex.av _, .p none]) ?_
                    refine ACall.mono (callL _ (l[i]).r [.i .i64 (l[i]).k, .s (sb (l[i]).w), .s (sb (l[i]).o), .i .i64 (l[i]).n, Ex.av _, .p none] x2 u2 (by rw [List.length_set]; exact hpl) d51 hq (fun φ => by show [_, _, _, _, sub φ (Ex.av _), _] = _; rw [hav]; rfl)) ?_
                    rintro R H ⟨rfl, rfl⟩
                    cases x2 <;> (
                      conv => whnf
                      refine ⟨Nat.le_of_ble_eq_true rfl, ?_⟩
                      conv => whnf
                      refine GhR.frz 1 rfl (GhR.sel [0] rfl (GhR.of ⟨?_, ?_⟩))
                      · refine Eq.trans ?_ (congrArg ARes.ret (sub_av (selφ [0]) _))
                        rfl
                      · show [Blk.c (subs _ (subs _ (bools _)))] = _
                        rw [subs_bools, subs_bools])
                  | true =>
                    repeat (first | (refine acond_t (decide_eq_true d51) ?_; conv => whnf) | (refine acond_t (decide_eq_true d52) ?_; conv => whnf) | (refine acond_f ((show (!true) = false from rfl)) ?_; conv => whnf))
                    have hf5 : freeB l.length u1 i (l[i]).r = false := by unfold freeB; rw [e5]; simp
                    rw [if_neg (by rw [hf5]; decide)] at hq
                    obtain ⟨rfl, rfl⟩ := Prod.mk.inj hq
                    refine GhR.frz 1 rfl (GhR.sel [0] rfl (GhR.of ⟨?_, ?_⟩))
                    · refine Eq.trans ?_ (congrArg ARes.ret (sub_av (selφ [0]) _))
                      rfl
                    · show [Blk.c (subs _ (subs _ (bools _)))] = _
                      rw [subs_bools, subs_bools]

                · repeat (first | (refine acond_t (decide_eq_true d51) ?_; conv => whnf) | (refine acond_f (decide_eq_false d52) ?_; conv => whnf))
                  have hf5 : freeB l.length u1 i (l[i]).r = false := by unfold freeB; rw [decide_eq_false d52, Bool.false_and, Bool.and_false]
                  rw [if_neg (by rw [hf5]; decide)] at hq
                  obtain ⟨rfl, rfl⟩ := Prod.mk.inj hq
                  refine GhR.frz 1 rfl (GhR.sel [0] rfl (GhR.of ⟨?_, ?_⟩))
                  · refine Eq.trans ?_ (congrArg ARes.ret (sub_av (selφ [0]) _))
                    rfl
                  · show [Blk.c (subs _ (subs _ (bools _)))] = _
                    rw [subs_bools, subs_bools]

              · repeat (first | (refine acond_f (decide_eq_false d51) ?_; conv => whnf))
                have hf5 : freeB l.length u1 i (l[i]).r = false := by unfold freeB; rw [decide_eq_false d51, Bool.false_and]
                rw [if_neg (by rw [hf5]; decide)] at hq
                obtain ⟨rfl, rfl⟩ := Prod.mk.inj hq
                refine GhR.frz 1 rfl (GhR.sel [0] rfl (GhR.of ⟨?_, ?_⟩))
                · refine Eq.trans ?_ (congrArg ARes.ret (sub_av (selφ [0]) _))
                  rfl
                · show [Blk.c (subs _ (subs _ (bools _)))] = _
                  rw [subs_bools, subs_bools])
          | true =>
            repeat (first | (refine acond_t (decide_eq_true d41) ?_; conv => whnf) | (refine acond_t (decide_eq_true d42) ?_; conv => whnf) | (refine acond_f ((show (!true) = false from rfl)) ?_; conv => whnf))
            have hf4 : freeB l.length u i (l[i]).l = false := by unfold freeB; rw [e4]; simp
            rw [if_neg (by rw [hf4]; decide)] at hp
            obtain ⟨rfl, rfl⟩ := Prod.mk.inj hp
            refine ⟨⟨by omega, by omega⟩, ?_⟩
            conv => whnf
            refine aget_nod (i := i) (j := 5) (by omega) hil (by omega) ?_
            conv => whnf
            by_cases d51 : (l[i]).r > (i : Int)
            · repeat (first | (refine acond_t (decide_eq_true d51) ?_; conv => whnf))
              refine ⟨⟨by omega, by omega⟩, ?_⟩
              conv => whnf
              repeat (first | (refine acond_t (decide_eq_true d51) ?_; conv => whnf))
              refine aget_nod (i := i) (j := 5) (by omega) hil (by omega) ?_
              conv => whnf
              repeat (first | (refine acond_t (decide_eq_true d51) ?_; conv => whnf))
              by_cases d52 : (l[i]).r < (l.length : Int)
              · repeat (first | (refine acond_t (decide_eq_true d51) ?_; conv => whnf) | (refine acond_t (decide_eq_true d52) ?_; conv => whnf))
                refine ⟨⟨by omega, by omega⟩, ?_⟩
                conv => whnf
                repeat (first | (refine acond_t (decide_eq_true d51) ?_; conv => whnf) | (refine acond_t (decide_eq_true d52) ?_; conv => whnf))
                refine aget_nod (i := i) (j := 5) (by omega) hil (by omega) ?_
                conv => whnf
                repeat (first | (refine acond_t (decide_eq_true d51) ?_; conv => whnf) | (refine acond_t (decide_eq_true d52) ?_; conv => whnf))
                refine ⟨⟨by omega, by omega⟩, ?_⟩
                conv => whnf
                repeat (first | (refine acond_t (decide_eq_true d51) ?_; conv => whnf) | (refine acond_t (decide_eq_true d52) ?_; conv => whnf))
                refine aget_bool (i := (l[i]).r.toNat) (by omega) (by omega) ?_
                conv => whnf
                cases e5 : u1.getD (l[i]).r.toNat false with
                | false =>
                  repeat (first | (refine acond_t (decide_eq_true d51) ?_; conv => whnf) | (refine acond_t (decide_eq_true d52) ?_; conv => whnf) | (refine acond_t ((show (!false) = true from rfl)) ?_; conv => whnf))
                  have hf5 : freeB l.length u1 i (l[i]).r = true := by unfold freeB; rw [decide_eq_true d51, decide_eq_true d52, e5]; rfl
                  rw [if_pos hf5] at hq
                  refine ⟨⟨by omega, by omega⟩, ?_⟩
                  conv => whnf
                  refine aget_nod (i := i) (j := 5) (by omega) hil (by omega) ?_
                  conv => whnf
                  refine ⟨⟨by omega, by omega⟩, ?_⟩
                  conv => whnf
                  refine ⟨by show 0 + (l[i]).r.toNat * 1 + 1 ≤ _; rw [bools_length]; omega, ?_⟩
                  conv => whnf
                  refine ⟨⟨by omega, by omega⟩, ?_⟩
                  conv => whnf
                  refine aget_nod (i := i) (j := 5) (by omega) hil (by omega) ?_
                  conv => whnf
                  refine ACall.heq (hset u1 (l[i]).r [.i .i64 (l[i]).k, .s (sb (l[i]).w), .s (sb (l[i]).o), .i .i64 (l[i]).n, Ex.av .nil, .p none]) ?_
                  refine ACall.mono (callL _ (l[i]).r [.i .i64 (l[i]).k, .s (sb (l[i]).w), .s (sb (l[i]).o), .i .i64 (l[i]).n, Ex.av .nil, .p none] x2 u2 (by rw [List.length_set]; exact hpl) d51 hq (fun φ => by show [_, _, _, _, sub φ (Ex.av .nil), _] = _; rw [hav]; rfl)) ?_
                  rintro R H ⟨rfl, rfl⟩
                  cases x2 <;> (
                    conv => whnf
                    refine ⟨Nat.le_of_ble_eq_true rfl, ?_⟩
                    conv => whnf
                    refine GhR.frz 1 rfl (GhR.sel [0] rfl (GhR.of ⟨?_, ?_⟩))
                    · refine Eq.trans ?_ (congrArg ARes.ret (sub_av (selφ [0]) _))
                      rfl
                    · show [Blk.c (subs _ (subs _ (bools _)))] = _
                      rw [subs_bools, subs_bools])
                | true =>
                  repeat (first | (refine acond_t (decide_eq_true d51) ?_; conv => whnf) | (refine acond_t (decide_eq_true d52) ?_; conv => whnf) | (refine acond_f ((show (!true) = false from rfl)) ?_; conv => whnf))
                  have hf5 : freeB l.length u1 i (l[i]).r = false := by unfold freeB; rw [e5]; simp
                  rw [if_neg (by rw [hf5]; decide)] at hq
                  obtain ⟨rfl, rfl⟩ := Prod.mk.inj hq
                  refine GhR.frz 1 rfl (GhR.sel [0] rfl (GhR.of ⟨?_, ?_⟩))
                  · refine Eq.trans ?_ (congrArg ARes.ret (sub_av (selφ [0]) _))
                    rfl
                  · show [Blk.c (subs _ (subs _ (bools _)))] = _
                    rw [subs_bools, subs_bools]

              · repeat (first | (refine acond_t (decide_eq_true d51) ?_; conv => whnf) | (refine acond_f (decide_eq_false d52) ?_; conv => whnf))
                have hf5 : freeB l.length u1 i (l[i]).r = false := by unfold freeB; rw [decide_eq_false d52, Bool.false_and, Bool.and_false]
                rw [if_neg (by rw [hf5]; decide)] at hq
                obtain ⟨rfl, rfl⟩ := Prod.mk.inj hq
                refine GhR.frz 1 rfl (GhR.sel [0] rfl (GhR.of ⟨?_, ?_⟩))
                · refine Eq.trans ?_ (congrArg ARes.ret (sub_av (selφ [0]) _))
                  rfl
                · show [Blk.c (subs _ (subs _ (bools _)))] = _
                  rw [subs_bools, subs_bools]

            · repeat (first | (refine acond_f (decide_eq_false d51) ?_; conv => whnf))
              have hf5 : freeB l.length u1 i (l[i]).r = false := by unfold freeB; rw [decide_eq_false d51, Bool.false_and]
              rw [if_neg (by rw [hf5]; decide)] at hq
              obtain ⟨rfl, rfl⟩ := Prod.mk.inj hq
              refine GhR.frz 1 rfl (GhR.sel [0] rfl (GhR.of ⟨?_, ?_⟩))
              · refine Eq.trans ?_ (congrArg ARes.ret (sub_av (selφ [0]) _))
                rfl
              · show [Blk.c (subs _ (subs _ (bools _)))] = _
                rw [subs_bools, subs_bools]

        · repeat (first | (refine acond_t (decide_eq_true d41) ?_; conv => whnf) | (refine acond_f (decide_eq_false d42) ?_; conv => whnf))
          have hf4 : freeB l.length u i (l[i]).l = false := by unfold freeB; rw [decide_eq_false d42, Bool.false_and, Bool.and_false]
          rw [if_neg (by rw [hf4]; decide)] at hp
          obtain ⟨rfl, rfl⟩ := Prod.mk.inj hp
          refine ⟨⟨by omega, by omega⟩, ?_⟩
          conv => whnf
          refine aget_nod (i := i) (j := 5) (by omega) hil (by omega) ?_
          conv => whnf
          by_cases d51 : (l[i]).r > (i : Int)
          · repeat (first | (refine acond_t (decide_eq_true d51) ?_; conv => whnf))
            refine ⟨⟨by omega, by omega⟩, ?_⟩
            conv => whnf
            repeat (first | (refine acond_t (decide_eq_true d51) ?_; conv => whnf))
            refine aget_nod (i := i) (j := 5) (by omega) hil (by omega) ?_
            conv => whnf
            repeat (first | (refine acond_t (decide_eq_true d51) ?_; conv => whnf))
            by_cases d52 : (l[i]).r < (l.length : Int)
            · repeat (first | (refine acond_t (decide_eq_true d51) ?_; conv => whnf) | (refine acond_t (decide_eq_true d52) ?_; conv => whnf))
              refine ⟨⟨by omega, by omega⟩, ?_⟩
              conv => whnf
              repeat (first | (refine acond_t (decide_eq_true d51) ?_; conv => whnf) | (refine acond_t (decide_eq_true d52) ?_; conv => whnf))
              refine aget_nod (i := i) (j := 5) (by omega) hil (by omega) ?_
              conv => whnf
              repeat (first | (refine acond_t (decide_eq_true d51) ?_; conv => whnf) | (refine acond_t (decide_eq_true d52) ?_; conv => whnf))
              refine ⟨⟨by omega, by omega⟩, ?_⟩
              conv => whnf
              repeat (first | (refine acond_t (decide_eq_true d51) ?_; conv => whnf) | (refine acond_t (decide_eq_true d52) ?_; conv => whnf))
              refine aget_bool (i := (l[i]).r.toNat) (by omega) (by omega) ?_
              conv => whnf
              cases e5 : u1.getD (l[i]).r.toNat false with
              | false =>
                repeat (first | (refine acond_t (decide_eq_true d51) ?_; conv => whnf) | (refine acond_t (decide_eq_true d52) ?_; conv => whnf) | (refine acond_t ((show (!false) = true from rfl)) ?_; conv => whnf))
                have hf5 : freeB l.length u1 i (l[i]).r = true := by unfold freeB; rw [decide_eq_true d51, decide_eq_true d52, e5]; rfl
                rw [if_pos hf5] at hq
                refine ⟨⟨by omega, by omega⟩, ?_⟩
                conv => whnf
                refine aget_nod (i := i) (j := 5) (by omega) hil (by omega) ?_
                conv => whnf
                refine ⟨⟨by omega, by omega⟩, ?_⟩
                conv => whnf
                refine ⟨by show 0 + (l[i]).r.toNat * 1 + 1 ≤ _; rw [bools_length]; omega, ?_⟩
                conv => whnf
                refine ⟨⟨by omega, by omega⟩, ?_⟩
                conv => whnf
                refine aget_nod (i := i) (j := 5) (by omega) hil (by omega) ?_
                conv => whnf
                refine ACall.heq (hset u1 (l[i]).r [.i .i64 (l[i]).k, .s (sb (l[i]).w), .s (sb (l[i]).o), .i .i64 (l[i]).n, Ex.av .nil, .p none]) ?_
                refine ACall.mono (callL _ (l[i]).r [.i .i64 (l[i]).k, .s (sb (l[i]).w), .s (sb (l[i]).o), .i .i64 (l[i]).n, Ex.av .nil, .p none] x2 u2 (by rw [List.length_set]; exact hpl) d51 hq (fun φ => by show [_, _, _, _, sub φ (Ex.av .nil), _] = _; rw [hav]; rfl)) ?_
                rintro R H ⟨rfl, rfl⟩
                cases x2 <;> (
                  conv => whnf
                  refine ⟨Nat.le_of_ble_eq_true rfl, ?_⟩
                  conv => whnf
                  refine GhR.frz 1 rfl (GhR.sel [0] rfl (GhR.of ⟨?_, ?_⟩))
                  · refine Eq.trans ?_ (congrArg ARes.ret (sub_av (selφ [0]) _))
                    rfl
                  · show [Blk.c (subs _ (subs _ (bools _)))] = _
                    rw [subs_bools, subs_bools])
              | true =>
                repeat (first | (refine acond_t (decide_eq_true d51) ?_; conv => whnf) | (refine acond_t (decide_eq_true d52) ?_; conv => whnf) | (refine acond_f ((show (!true) = false from rfl)) ?_; conv => whnf))
                have hf5 : freeB l.length u1 i (l[i]).r = false := by unfold freeB; rw [e5]; simp
                rw [if_neg (by rw [hf5]; decide)] at hq
                obtain ⟨rfl, rfl⟩ := Prod.mk.inj hq
                refine GhR.frz 1 rfl (GhR.sel [0] rfl (GhR.of ⟨?_, ?_⟩))
                · refine Eq.trans ?_ (congrArg ARes.ret (sub_av (selφ [0]) _))
                  rfl
                · show [Blk.c (subs _ (subs _ (bools _)))] = _
                  rw [subs_bools, subs_bools]

            · repeat (first | (refine acond_t (decide_eq_true d51) ?_; conv => whnf) | (refine acond_f (decide_eq_false d52) ?_; conv => whnf))
              have hf5 : freeB l.length u1 i (l[i]).r = false := by unfold freeB; rw [decide_eq_false d52, Bool.false_and, Bool.and_false]
              rw [if_neg (by rw [hf5]; decide)] at hq
              obtain ⟨rfl, rfl⟩ := Prod.mk.inj hq
              refine GhR.frz 1 rfl (GhR.sel [0] rfl (GhR.of ⟨?_, ?_⟩))
              · refine Eq.trans ?_ (congrArg ARes.ret (sub_av (selφ [0]) _))
                rfl
              · show [Blk.c (subs _ (subs _ (bools _)))] = _
                rw [subs_bools, subs_bools]

          · repeat (first | (refine acond_f (decide_eq_false d51) ?_; conv => whnf))
            have hf5 : freeB l.length u1 i (l[i]).r = false := by unfold freeB; rw [decide_eq_false d51, Bool.false_and]
            rw [if_neg (by rw [hf5]; decide)] at hq
            obtain ⟨rfl, rfl⟩ := Prod.mk.inj hq
            refine GhR.frz 1 rfl (GhR.sel [0] rfl (GhR.of ⟨?_, ?_⟩))
            · refine Eq.trans ?_ (congrArg ARes.ret (sub_av (selφ [0]) _))
              rfl
            · show [Blk.c (subs _ (subs _ (bools _)))] = _
              rw [subs_bools, subs_bools]

      · repeat (first | (refine acond_f (decide_eq_false d41) ?_; conv => whnf))
        have hf4 : freeB l.length u i (l[i]).l = false := by unfold freeB; rw [decide_eq_false d41, Bool.false_and]
        rw [if_neg (by rw [hf4]; decide)] at hp
        obtain ⟨rfl, rfl⟩ := Prod.mk.inj hp
        refine ⟨⟨by omega, by omega⟩, ?_⟩
        conv => whnf
        refine aget_nod (i := i) (j := 5) (by omega) hil (by omega) ?_
        conv => whnf
        by_cases d51 : (l[i]).r > (i : Int)
        · repeat (first | (refine acond_t (decide_eq_true d51) ?_; conv => whnf))
          refine ⟨⟨by omega, by omega⟩, ?_⟩
          conv => whnf
          repeat (first | (refine acond_t (decide_eq_true d51) ?_; conv => whnf))
          refine aget_nod (i := i) (j := 5) (by omega) hil (by omega) ?_
          conv => whnf
          repeat (first | (refine acond_t (decide_eq_true d51) ?_; conv => whnf))
          by_cases d52 : (l[i]).r < (l.length : Int)
          · repeat (first | (refine acond_t (decide_eq_true d51) ?_; conv => whnf) | (refine acond_t (decide_eq_true d52) ?_; conv => whnf))
            refine ⟨⟨by omega, by omega⟩, ?_⟩
            conv => whnf
            repeat (first | (refine acond_t (decide_eq_true d51) ?_; conv => whnf) | (refine acond_t (decide_eq_true d52) ?_; conv => whnf))
            refine aget_nod (i := i) (j := 5) (by omega) hil (by omega) ?_
            conv => whnf
            repeat (first | (refine acond_t (decide_eq_true d51) ?_; conv => whnf) | (refine acond_t (decide_eq_true d52) ?_; conv => whnf))
            refine ⟨⟨by omega, by omega⟩, ?_⟩
            conv => whnf
            repeat (first | (refine acond_t (decide_eq_true d51) ?_; conv => whnf) | (refine acond_t (decide_eq_true d52) ?_; conv => whnf))
            refine aget_bool (i := (l[i]).r.toNat) (by omega) (by omega) ?_
            conv => whnf
            cases e5 : u1.getD (l[i]).r.toNat false with
            | false =>
              repeat (first | (refine acond_t (decide_eq_true d51) ?_; conv => whnf) | (refine acond_t (decide_eq_true d52) ?_; conv => whnf) | (refine acond_t ((show (!false) = true from rfl)) ?_; conv => whnf))
              have hf5 : freeB l.length u1 i (l[i]).r = true := by unfold freeB; rw [decide_eq_true d51, decide_eq_true d52, e5]; rfl
              rw [if_pos hf5] at hq
              refine ⟨⟨by omega, by omega⟩, ?_⟩
              conv => whnf
              refine aget_nod (i := i) (j := 5) (by omega) hil (by omega) ?_
              conv => whnf
              refine ⟨⟨by omega, by omega⟩, ?_⟩
              conv => whnf
              refine ⟨by show 0 + (l[i]).r.toNat * 1 + 1 ≤ _; rw [bools_length]; omega, ?_⟩
              conv => whnf
              refine ⟨⟨by omega, by omega⟩, ?_⟩
              conv => whnf
              refine aget_nod (i := i) (j := 5) (by omega) hil (by omega) ?_
              conv => whnf
              refine ACall.heq (hset u1 (l[i]).r [.i .i64 (l[i]).k, .s (sb (l[i]).w), .s (sb (l[i]).o), .i .i64 (l[i]).n, Ex.av .nil, .p none]) ?_
              refine ACall.mono (callL _ (l[i]).r [.i .i64 (l[i]).k, .s (sb (l[i]).w), .s (sb (l[i]).o), .i .i64 (l[i]).n, Ex.av .nil, .p none] x2 u2 (by rw [List.length_set]; exact hpl) d51 hq (fun φ => by show [_, _, _, _, sub φ (Ex.av .nil), _] = _; rw [hav]; rfl)) ?_
              rintro R H ⟨rfl, rfl⟩
              cases x2 <;> (
                conv => whnf
                refine ⟨Nat.le_of_ble_eq_true rfl, ?_⟩
                conv => whnf
                refine GhR.frz 1 rfl (GhR.sel [0] rfl (GhR.of ⟨?_, ?_⟩))
                · refine Eq.trans ?_ (congrArg ARes.ret (sub_av (selφ [0]) _))
                  rfl
                · show [Blk.c (subs _ (subs _ (bools _)))] = _
                  rw [subs_bools, subs_bools])
            | true =>
              repeat (first | (refine acond_t (decide_eq_true d51) ?_; conv => whnf) | (refine acond_t (decide_eq_true d52) ?_; conv => whnf) | (refine acond_f ((show (!true) = false from rfl)) ?_; conv => whnf))
              have hf5 : freeB l.length u1 i (l[i]).r = false := by unfold freeB; rw [e5]; simp
              rw [if_neg (by rw [hf5]; decide)] at hq
              obtain ⟨rfl, rfl⟩ := Prod.mk.inj hq
              refine GhR.frz 1 rfl (GhR.sel [0] rfl (GhR.of ⟨?_, ?_⟩))
              · refine Eq.trans ?_ (congrArg ARes.ret (sub_av (selφ [0]) _))
                rfl
              · show [Blk.c (subs _ (subs _ (bools _)))] = _
                rw [subs_bools, subs_bools]

          · repeat (first | (refine acond_t (decide_eq_true d51) ?_; conv => whnf) | (refine acond_f (decide_eq_false d52) ?_; conv => whnf))
            have hf5 : freeB l.length u1 i (l[i]).r = false := by unfold freeB; rw [decide_eq_false d52, Bool.false_and, Bool.and_false]
            rw [if_neg (by rw [hf5]; decide)] at hq
            obtain ⟨rfl, rfl⟩ := Prod.mk.inj hq
            refine GhR.frz 1 rfl (GhR.sel [0] rfl (GhR.of ⟨?_, ?_⟩))
            · refine Eq.trans ?_ (congrArg ARes.ret (sub_av (selφ [0]) _))
              rfl
            · show [Blk.c (subs _ (subs _ (bools _)))] = _
              rw [subs_bools, subs_bools]

        · repeat (first | (refine acond_f (decide_eq_false d51) ?_; conv => whnf))
          have hf5 : freeB l.length u1 i (l[i]).r = false := by unfold freeB; rw [decide_eq_false d51, Bool.false_and]
          rw [if_neg (by rw [hf5]; decide)] at hq
          obtain ⟨rfl, rfl⟩ := Prod.mk.inj hq
          refine GhR.frz 1 rfl (GhR.sel [0] rfl (GhR.of ⟨?_, ?_⟩))
          · refine Eq.trans ?_ (congrArg ARes.ret (sub_av (selφ [0]) _))
            rfl
          · show [Blk.c (subs _ (subs _ (bools _)))] = _
            rw [subs_bools, subs_bools]
    · have hii : ((i : Nat) : Int) ≥ (l.length : Int) := by omega
      rw [partF, dif_neg hil]
      refine ACall.enter tok false Tryd.func31 rfl rfl rfl (AW_sound (ip := false) tok _ _ _ _ ?_)
      conv => whnf
      repeat (first | (refine acond_t (decide_eq_true hii) ?_; conv => whnf))
      exact ⟨rfl, rfl⟩
end Go.AK
namespace Go.AK
open Go Go.RowKit Go.Proofs
set_option linter.unusedVariables false
set_option maxRecDepth 100000
def tc : List Bool → Nat
  | [] => 0
  | b :: u => (if b = true then 1 else 0) + tc u
theorem tc_le : ∀ u : List Bool, tc u ≤ u.length
  | [] => Nat.le_refl _
  | b :: u => by
    have := tc_le u
    simp only [tc, List.length_cons]
    split <;> omega
theorem tc_set : ∀ (u : List Bool) (j : Nat), j < u.length → u.getD j false = false → tc (u.set j true) = tc u + 1
  | [], j, h, _ => by simp at h
  | b :: u, 0, _, h => by
    have hb : b = false := h
    subst hb
    simp only [List.set_cons_zero, tc]
    simp; omega
  | b :: u, j + 1, h, h2 => by
    have := tc_set u j (by simpa using h) (by simpa using h2)
    simp only [List.set_cons_succ, tc, this]; omega
def Ex.sz : Ex → Nat
  | .nil => 0
  | .nd _ _ _ _ l r => 1 + l.sz + r.sz
theorem Ex.depth_sz : ∀ x : Ex, x.depth ≤ x.sz
  | .nil => Nat.le_refl _
  | .nd _ _ _ _ l r => by
    have := Ex.depth_sz l; have := Ex.depth_sz r
    simp only [Ex.depth, Ex.sz]; omega
/-- Words, and numbers, as nodes of a row have them. -/
def Ex.words : Ex → Prop
  | .nil => True
  | .nd _ w o _ l r => (w.length ≤ 20 ∧ o.length ≤ 20) ∧ l.words ∧ r.words
theorem Ex.wt_sz : ∀ x : Ex, x.words → x.wt ≤ 80 * x.sz
  | .nil, _ => Nat.le_refl _
  | .nd k w o n l r, ⟨⟨h1, h2⟩, h3, h4⟩ => by
    have := Ex.wt_sz l h3; have := Ex.wt_sz r h4
    simp only [Ex.wt, Ex.sz]; omega
def Nod.ok (a : Nod) : Prop := -9223372036854775808 ≤ a.n ∧ a.n ≤ 9223372036854775807
theorem freeB_of {n : Nat} {u : List Bool} {i : Nat} {j : Int} (h : freeB n u i j = true) : i < j.toNat ∧ j.toNat < n ∧ u.getD j.toNat false = false := by
  unfold freeB at h
  simp only [Bool.and_eq_true, decide_eq_true_eq, Bool.not_eq_true'] at h
  exact ⟨by omega, by omega, h.2.2⟩
theorem partF_sz (l : List Nod) : ∀ (f : Nat) (u : List Bool) (i : Nat), u.length = l.length → (partF l f u i).1.sz + tc u ≤ 1 + tc (partF l f u i).2
  | 0, u, i, _ => by show 0 + tc u ≤ 1 + tc u; omega
  | f + 1, u, i, hu => by
    by_cases h : i < l.length
    · rw [partF_nd h rfl rfl]
      have side : ∀ (v : List Bool) (j : Int), v.length = l.length → ((if freeB l.length v i j = true then partF l f (v.set j.toNat true) j.toNat else (.nil, v)).1.sz + tc v ≤ tc (if freeB l.length v i j = true then partF l f (v.set j.toNat true) j.toNat else (.nil, v)).2 ∧
          (if freeB l.length v i j = true then partF l f (v.set j.toNat true) j.toNat else (.nil, v)).2.length = l.length) := by
        intro v j hv
        split
        · rename_i hf
          obtain ⟨h1, h2, h3⟩ := freeB_of hf
          have := partF_sz l f (v.set j.toNat true) j.toNat (by simp [hv])
          rw [tc_set v _ (by omega) h3] at this
          exact ⟨by omega, by rw [partF_len]; simp [hv]⟩
        · exact ⟨by show 0 + tc v ≤ tc v; omega, hv⟩
      obtain ⟨a1, a2⟩ := side u (l[i]).l hu
      generalize (if freeB l.length u i (l[i]).l = true then partF l f (u.set (l[i]).l.toNat true) (l[i]).l.toNat else (.nil, u)) = p at a1 a2 ⊢
      obtain ⟨b1, b2⟩ := side p.2 (l[i]).r a2
      generalize (if freeB l.length p.2 i (l[i]).r = true then partF l f (p.2.set (l[i]).r.toNat true) (l[i]).r.toNat else (.nil, p.2)) = q at b1 b2 ⊢
      show 1 + p.1.sz + q.1.sz + tc u ≤ 1 + tc q.2
      omega
    · rw [partF, dif_neg h]; show 0 + tc u ≤ 1 + tc u; omega
theorem partF_all (l : List Nod) (hok : ∀ a ∈ l, a.ok ∧ a.w.length ≤ 20 ∧ a.o.length ≤ 20) : ∀ (f : Nat) (u : List Bool) (i : Nat), (partF l f u i).1.okN ∧ (partF l f u i).1.words
  | 0, u, i => ⟨trivial, trivial⟩
  | f + 1, u, i => by
    by_cases h : i < l.length
    · rw [partF_nd h rfl rfl]
      have side : ∀ (v : List Bool) (j : Int), (if freeB l.length v i j = true then partF l f (v.set j.toNat true) j.toNat else (.nil, v)).1.okN ∧ (if freeB l.length v i j = true then partF l f (v.set j.toNat true) j.toNat else (.nil, v)).1.words := by
        intro v j
        split
        · exact partF_all l hok f _ _
        · exact ⟨trivial, trivial⟩
      have ha := hok _ (List.getElem_mem h)
      exact ⟨⟨ha.1, (side _ _).1, (side _ _).1⟩, ⟨ha.2, (side _ _).2, (side _ _).2⟩⟩
    · rw [partF, dif_neg h]; exact ⟨trivial, trivial⟩
/-- The tree of a row of nodes. -/
def treeOf (l : List Nod) : Ex := (partF l (l.length + 1) (List.replicate l.length false) 0).1
theorem tc_false : ∀ n : Nat, tc (List.replicate n false) = 0
  | 0 => rfl
  | n + 1 => by rw [List.replicate_succ, tc, tc_false n]; rfl
theorem treeOf_sz (l : List Nod) : (treeOf l).sz ≤ l.length + 1 := by
  have h := partF_sz l (l.length + 1) (List.replicate l.length false) 0 (by simp)
  have h2 := tc_le (partF l (l.length + 1) (List.replicate l.length false) 0).2
  rw [partF_len, List.length_replicate] at h2
  rw [tc_false] at h
  unfold treeOf; omega
theorem fewB_of {l : List Nod} (h : fewB l = true) : l.length ≤ 200 ∧ ∀ a ∈ l, a.w.length ≤ 20 ∧ a.o.length ≤ 20 := by
  unfold fewB at h
  simp only [Bool.and_eq_true, decide_eq_true_eq] at h
  obtain ⟨h1, h2⟩ := h
  rw [List.take_of_length_le (by omega), List.all_eq_true] at h1
  refine ⟨h2, fun a ha => ?_⟩
  have := h1 a ha
  simpa using this
structure TreeOK (x : Ex) : Prop where
  dep : x.depth ≤ 201
  num : x.okN
  wt : x.wt ≤ 20000
  words : x.words
theorem treeOf_ok {l : List Nod} (h : fewB l = true) (hok : ∀ a ∈ l, a.ok) : TreeOK (treeOf l) := by
  obtain ⟨h1, h2⟩ := fewB_of h
  have hs := treeOf_sz l
  have hd := Ex.depth_sz (treeOf l)
  obtain ⟨a1, a2⟩ := partF_all l (fun a ha => ⟨hok a ha, h2 a ha⟩) (l.length + 1) (List.replicate l.length false) 0
  have hw := Ex.wt_sz (treeOf l) a2
  exact ⟨by omega, a1, by omega, a2⟩
theorem flat_bools : ∀ n : Nat, (List.replicate n [AV.b false]).flatten = bools (List.replicate n false)
  | 0 => rfl
  | n + 1 => by
    have := flat_bools n
    simp only [List.replicate_succ, List.flatten_cons, this, bools, List.map_cons]; rfl
theorem tree_mk_spec (l : List Nod) (hl : l.length < 1000000) :
    ACall Tryd.prog 15 [.rs (nods l) 0 6 l.length] [] fun R H => R = .ret (treeOf l).av ∧ H = [] := by
  refine ACall.gh ?_
  refine ACall.enter tok false Tryd.func15 rfl rfl rfl (AW_sound (ip := false) tok _ _ _ _ ?_)
  have hp := part_spec l hl (l.length + 1) (List.replicate l.length false) 0 (by simp) (by omega)
  conv => whnf
  refine ⟨⟨by omega, by omega, by show (1 : Int) * _ ≤ _; omega, by omega⟩, ?_⟩
  conv => whnf
  refine ACall.heq (H' := [.c (bools (List.replicate l.length false))]) (by show [Blk.c (List.replicate ((l.length : Nat) : Int).toNat [AV.b false]).flatten] = _; rw [Int.toNat_natCast, flat_bools]) ?_
  refine ACall.mono hp ?_
  rintro R H ⟨rfl, rfl⟩
  conv => whnf
  refine GhR.sel [] rfl (GhR.of ⟨?_, rfl⟩)
  exact congrArg ARes.ret (sub_av _ _)
end Go.AK
namespace Go.AK
open Go Go.RowKit Go.Proofs
set_option linter.unusedVariables false
set_option maxRecDepth 100000
theorem i64_in {n : Int} (h : (Lit.int .i64 n).wf = true) : -9223372036854775808 ≤ n ∧ n ≤ 9223372036854775807 := by
  have := Bool.and_eq_true_iff.1 (show (decide (IntKind.min .i64 ≤ n) && decide (n ≤ IntKind.max .i64)) = true from h)
  exact ⟨of_decide_eq_true this.1, of_decide_eq_true this.2⟩
theorem okT_nods : ∀ fuel, okT T fuel 33 = true
  | 0 => rfl
  | 1 => rfl
  | 2 => rfl
  | n + 3 => rfl
theorem WT_nod : ∀ {fuel : Nat} {xs : List AV}, WT T fuel 78 xs → ∃ a : Nod, xs = a.cells ∧ a.ok
  | 0, _, h => h.elim
  | 1, xs, h => by
    obtain ⟨ys, zs, _, h1, _⟩ := (show WTs (WT T 0) [3, 9, 9, 3, 3, 3] xs from h)
    exact h1.elim
  | n + 2, xs, h => by
    obtain ⟨y0, z0, rfl, h0, h⟩ := (show WTs (WT T (n + 1)) [3, 9, 9, 3, 3, 3] xs from h)
    obtain ⟨y1, z1, rfl, h1, h⟩ := h
    obtain ⟨y2, z2, rfl, h2, h⟩ := h
    obtain ⟨y3, z3, rfl, h3, h⟩ := h
    obtain ⟨y4, z4, rfl, h4, h⟩ := h
    obtain ⟨y5, z5, rfl, h5, h⟩ := h
    obtain rfl := (show z5 = [] from h)
    obtain ⟨k, rfl, w0⟩ := (show ∃ m, y0 = [.i .i64 m] ∧ (Lit.int .i64 m).wf = true from h0)
    obtain ⟨w, rfl, w1⟩ := (show ∃ s, y1 = [.s s] ∧ s.size ≤ maxLen from h1)
    obtain ⟨o, rfl, w2⟩ := (show ∃ s, y2 = [.s s] ∧ s.size ≤ maxLen from h2)
    obtain ⟨m, rfl, w3⟩ := (show ∃ m, y3 = [.i .i64 m] ∧ (Lit.int .i64 m).wf = true from h3)
    obtain ⟨l, rfl, w4⟩ := (show ∃ m, y4 = [.i .i64 m] ∧ (Lit.int .i64 m).wf = true from h4)
    obtain ⟨r, rfl, w5⟩ := (show ∃ m, y5 = [.i .i64 m] ∧ (Lit.int .i64 m).wf = true from h5)
    exact ⟨⟨k, w.data.toList, o.data.toList, m, l, r⟩, rfl, i64_in w3⟩
theorem WTs_nods {n : Nat} : ∀ (m : Nat) (cs : List AV), WTs (WT T n) (List.replicate m 78) cs → ∃ L : List Nod, cs = nods L ∧ L.length = m ∧ ∀ a ∈ L, a.ok
  | 0, cs, hc => ⟨[], (show cs = [] from hc), rfl, fun x hx => by cases hx⟩
  | m + 1, cs, hc => by
    rw [List.replicate_succ] at hc
    obtain ⟨ys, zs, rfl, h1, h2⟩ := hc
    obtain ⟨a, rfl, ha⟩ := WT_nod h1
    obtain ⟨L, rfl, hl, hL⟩ := WTs_nods m zs h2
    refine ⟨a :: L, rfl, by simp [hl], fun y hy => ?_⟩
    rcases List.mem_cons.1 hy with rfl | hy
    · exact ha
    · exact hL y hy
theorem WT_nods : ∀ {fuel : Nat} {xs : List AV}, WT T fuel 33 xs → ∃ l : List Nod, xs = [.rs (nods l) 0 6 l.length] ∧ l.length ≤ maxLen ∧ ∀ a ∈ l, a.ok
  | 0, _, h => h.elim
  | n + 1, xs, h => by
    obtain ⟨m, cs, hx, hm, hc⟩ := (show ∃ m cs, xs = [AV.rs cs 0 6 m] ∧ m ≤ maxLen ∧ WTs (WT T n) (List.replicate m 78) cs from h)
    obtain ⟨L, hL, hl, hw⟩ := WTs_nods m cs hc
    subst hL
    exact ⟨L, by rw [hx, hl], by omega, hw⟩
theorem maxLen_lt {n : Nat} (h : n ≤ maxLen) : n ≤ 9223372036854775807 := Nat.le_trans h (by decide)
end Go.AK
