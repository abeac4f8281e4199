/- Texts SETextR, SEPpAll, SEParse, SEAwake, SEEqual, SEChecks: an evaluator of the model's code, proved sound, and what the program's functions do, for all inputs. -/
import Derived.Test.YtgedgleipefinaaDoorMS4
set_option linter.unusedVariables false
set_option linter.unusedSimpArgs false
set_option linter.unusedSectionVars false
namespace Go.AK
open Go Go.RowKit Go.Proofs
set_option linter.unusedVariables false
set_option maxRecDepth 100000
/-! The document's text. -/
theorem aroundR_spec (t : Str) (b : Bool) (h : t.length ≤ 1000000000000) : ACall Tryd.prog 35 [.s (sb t), .b b] [] fun R H => R = .ret (.s (sb (around t b))) ∧ H = [] := by
  refine ACall.enter tok false Tryd.func35 rfl rfl rfl (AW_sound (ip := false) tok _ _ _ _ ?_)
  cases b with
  | true =>
    conv => whnf
    refine ⟨by rw [sb_size]; show 1 + _ ≤ _; omega, ?_⟩
    conv => whnf
    refine ⟨by simp only [ByteArray.size_append, sb_size]; show 1 + _ + 1 ≤ _; omega, ?_⟩
    conv => whnf
    refine ⟨congrArg (fun z => ARes.ret (AV.s z)) ?_, rfl⟩
    show sb [40] ++ sb t ++ sb [41] = _
    rw [sb_append, sb_append]; rfl
  | false =>
    conv => whnf
    exact ⟨rfl, rfl⟩
theorem digitsR_spec (n : Nat) : n ≤ 9223372036854775807 → ACall Tryd.prog 36 [.i .i64 n] [] fun R H => R = .ret (.s (sb (Lib.itoa n))) ∧ H = [] := by
  induction n using Nat.strongRecOn with
  | ind n ih =>
    intro hn
    rw [Lib.itoa_nonneg]
    refine ACall.enter tok false Tryd.func36 rfl rfl rfl (AW_sound (ip := false) tok _ _ _ _ ?_)
    have dig : ∀ k : Nat, k < 10 → (sb [48, 49, 50, 51, 52, 53, 54, 55, 56, 57]).extract ((k : Nat) : Int).toNat (IntKind.i64.wrap ((k : Int) + 1)).toNat = sb [UInt8.ofNat (48 + k)] := by
      intro k hk
      rw [show IntKind.i64.wrap ((k : Int) + 1) = ((k + 1 : Nat) : Int) from wrap_small (by omega) (by omega), Int.toNat_natCast, Int.toNat_natCast, sb_extract, Nat.add_sub_cancel_left]
      match k, hk with
      | 0, _ => rfl
      | 1, _ => rfl
      | 2, _ => rfl
      | 3, _ => rfl
      | 4, _ => rfl
      | 5, _ => rfl
      | 6, _ => rfl
      | 7, _ => rfl
      | 8, _ => rfl
      | 9, _ => rfl
    have bnd : ∀ k : Nat, k < 10 → (0 : Int) ≤ ((k : Nat) : Int) ∧ ((k : Nat) : Int) ≤ IntKind.i64.wrap ((k : Int) + 1) ∧ IntKind.i64.wrap ((k : Int) + 1) ≤ (10 : Int) := by
      intro k hk
      rw [show IntKind.i64.wrap ((k : Int) + 1) = ((k + 1 : Nat) : Int) from wrap_small (by omega) (by omega)]
      omega
    by_cases h : ((n : Nat) : Int) < 10
    · conv => whnf
      repeat (first | (refine acond_t (decide_eq_true h) ?_; conv => whnf))
      refine ⟨bnd n (by omega), ?_⟩
      conv => whnf
      refine ⟨congrArg (fun z => ARes.ret (AV.s z)) ?_, rfl⟩
      rw [Lib.decDigits_one (by omega)]
      exact dig n (by omega)
    · have hq : IntKind.i64.wrap (Int.tdiv (n : Int) 10) = ((n / 10 : Nat) : Int) := by
        rw [show Int.tdiv (n : Int) 10 = ((n / 10 : Nat) : Int) from rfl, wrap_small (by omega) (by omega)]
      have hr : Int.tmod (n : Int) 10 = ((n % 10 : Nat) : Int) := rfl
      have hd := dig (n % 10) (by omega)
      have hb := bnd (n % 10) (by omega)
      have hi := ih (n / 10) (by omega) (by omega)
      have hil := itoa_len ((n / 10 : Nat) : Int) (by omega) (by omega)
      have hdec : Lib.decDigits n = Lib.itoa ((n / 10 : Nat) : Int) ++ [UInt8.ofNat (48 + n % 10)] := by
        rw [Lib.itoa_nonneg, Lib.decDigits, dif_neg (by omega)]
      rw [hdec]
      generalize n % 10 = m at hr hd hb ⊢
      have hi' : ACall Tryd.prog 36 [.i .i64 (IntKind.i64.wrap (Int.tdiv (n : Int) 10))] [] fun R H => R = .ret (.s (sb (Lib.itoa ((n / 10 : Nat) : Int)))) ∧ H = [] := by rw [hq]; exact hi
      conv => whnf
      repeat (first | (refine acond_f (decide_eq_false h) ?_; conv => whnf))
      refine ADraw.of tok mixed false [0, 1, 3, 4, 5, 6, 7, 8] [2, 9, 10] (by kernel_rfl) (fun _ _ _ _ h => h) ?_
      conv => whnf
      refine ⟨by decide, ?_⟩
      conv => whnf
      refine ⟨by decide, ?_⟩
      conv => whnf
      refine ⟨by decide, ?_⟩
      conv => whnf
      refine ⟨by rw [hr]; exact hb, ?_⟩
      conv => whnf
      refine ACall.mono hi' ?_; rintro r0 H ⟨rfl, rfl⟩
      conv => whnf
      refine ⟨by rw [hr]; show (sb (Lib.itoa ((n / 10 : Nat) : Int))).size + ((sb [48, 49, 50, 51, 52, 53, 54, 55, 56, 57]).extract _ _).size ≤ _; rw [hd, sb_size, sb_size, List.length_singleton]; omega, ?_⟩
      conv => whnf
      refine ⟨congrArg (fun z => ARes.ret (AV.s z)) ?_, rfl⟩
      show sb (Lib.itoa ((n / 10 : Nat) : Int)) ++ (sb [48, 49, 50, 51, 52, 53, 54, 55, 56, 57]).extract (Int.tmod (n : Int) 10).toNat (IntKind.i64.wrap (Int.tmod (n : Int) 10 + 1)).toNat = _
      rw [hr, hd, sb_append]
theorem txt_around (k : Int) (w o : Str) (n : Int) (l r : Ex) (c : Int) : (Ex.nd k w o n l r).txt c = around ((Ex.nd k w o n l r).txt 0) (decide (bindsI k < c)) := by
  have h0 : ¬ bindsI k < 0 := by unfold bindsI; split <;> (try split) <;> (try split) <;> omega
  simp only [Ex.txt, h0, decide_false, around, Bool.false_eq_true, if_false]
theorem binds_3 (k : Int) : decide (bindsI k < 3) = ((k == 2) || (k == 3)) := by
  unfold bindsI
  by_cases h : k = 3
  · subst h; rfl
  by_cases h2 : k = 2
  · subst h2; rfl
  rw [if_neg h, if_neg h2, show (k == 2) = false from by simpa using h2, show (k == 3) = false from by simpa using h]
  split <;> rfl
theorem binds_2 (k : Int) : decide (bindsI k < 2) = (k == 3) := by
  unfold bindsI
  by_cases h : k = 3
  · subst h; rfl
  rw [if_neg h, show (k == 3) = false from by simpa using h]
  split
  · rfl
  split <;> rfl
theorem binds_1 (k : Int) : decide (bindsI k < 1) = false := by
  unfold bindsI
  split
  · rfl
  split
  · rfl
  split <;> rfl
def textROK (x : Ex) : Prop := ACall Tryd.prog 22 [x.av] [] fun r0 H => r0 = .ret (.s (sb (x.txt 0))) ∧ H = []
theorem textR_4 (w o : Str) (n : Int) (hw : w.length ≤ 1000000000000) (ho : o.length ≤ 1000000000000) (hn : 0 ≤ n ∧ n ≤ 9223372036854775807) : textROK (.nd 4 w o n .nil .nil) := by
  have hi := itoa_len n (by omega) hn.2
  obtain ⟨m, rfl⟩ : ∃ m : Nat, n = (m : Int) := ⟨n.toNat, by omega⟩
  refine ACall.enter tok false Tryd.func22 rfl rfl rfl (AW_sound (ip := false) tok _ _ _ _ ?_)
  conv => whnf
  refine ADraw.ofS tok mixed false [3, 8, 14] [0, 1, 2, 3, 4, 5, 6, 7, 8, 9, 10, 11, 12, 13, 14] [15, 16, 17] (by kernel_rfl) (fun _ _ _ _ h => h) ?_
  conv => whnf
  refine ⟨by rw [sb_size]; show _ + 1 ≤ _; omega, ?_⟩
  conv => whnf
  refine ⟨by simp only [ByteArray.size_append, sb_size]; show _ + 1 + _ ≤ _; omega, ?_⟩
  conv => whnf
  refine ⟨by simp only [ByteArray.size_append, sb_size]; show _ + 1 + _ + 1 ≤ _; omega, ?_⟩
  conv => whnf
  refine ACall.mono (digitsR_spec m (by omega)) ?_; rintro r0 H ⟨rfl, rfl⟩
  conv => whnf
  refine ⟨by simp only [ByteArray.size_append, sb_size]; show _ + 1 + _ + 1 + _ ≤ _; omega, ?_⟩
  conv => whnf
  refine ⟨congrArg (fun z => ARes.ret (AV.s z)) ?_, rfl⟩
  show sb w ++ sb [32] ++ sb o ++ sb [32] ++ sb (Lib.itoa (m : Int)) = _
  simp only [sb_append, Ex.txt, around, if_neg (show ¬ (4 : Int) = 3 by decide), if_neg (show ¬ (4 : Int) = 2 by decide), if_neg (show ¬ (4 : Int) = 1 by decide), List.append_assoc]
  rfl
theorem textR_1 (l : Ex) (hl : GT l) (hll : (l.txt 0).length ≤ 100000000000) (ihl : textROK l) : textROK (.nd 1 [] [] 0 l .nil) := by
  obtain ⟨k, wk, ok, nk, ak, bk, rfl⟩ : ∃ k w o n a b, l = .nd k w o n a b := by
    cases hl <;> exact ⟨_, _, _, _, _, _, rfl⟩
  have hxl := txt_around k wk ok nk ak bk 3
  rw [binds_3] at hxl
  have htx : (Ex.nd 1 [] [] 0 (Ex.nd k wk ok nk ak bk) .nil).txt 0 = wNotS ++ (Ex.nd k wk ok nk ak bk).txt 3 := by
    generalize (Ex.nd k wk ok nk ak bk) = x
    simp only [Ex.txt, around]; rfl
  rw [hxl] at htx
  unfold textROK at ihl ⊢
  rw [htx]
  generalize (Ex.nd k wk ok nk ak bk).txt 0 = tl at hll ihl ⊢
  clear htx hxl
  have al : ∀ c : Bool, (around tl c).length ≤ 100000000002 := fun c => Nat.le_trans (around_len tl c) (by omega)
  have b4 : ((k == 2) || (k == 3)) = if k = 2 then true else (k == 3) := by
    by_cases h : k = 2
    · subst h; rfl
    · rw [show (k == 2) = false from by simpa using h, if_neg h, Bool.false_or]
  rw [b4]
  by_cases h2 : k = 2
  · have b2 : (k == 2) = true := by simpa using h2
    rw [if_pos h2]
    refine ACall.enter tok false Tryd.func22 rfl rfl rfl (AW_sound (ip := false) tok _ _ _ _ ?_)
    conv => whnf
    refine ADraw.tree tok mixed false [3, 8, 11, 17, 20] [0, 1, 2, 3, 5, 6, 7, 8, 9, 10, 11, 12] (.node (.cons 4 (.node (.cons 13 (.node (.cons 14 (.node (.cons 15 (.node (.cons 16 (.node (.cons 17 (.node (.cons 18 (.node (.cons 19 (.node (.cons 20 (.node (.cons 21 (.node (.cons 22 (.node (.cons 23 (.node (.cons 24 (.node (.cons 25 (.node .nil) .nil)) .nil)) .nil)) .nil)) .nil)) .nil)) .nil)) .nil)) .nil)) .nil)) .nil)) .nil)) .nil)) .nil)) (by kernel_rfl) (fun _ _ _ _ h => h) ?_
    conv => whnf
    refine ACall.mono ihl ?_; rintro r0 H ⟨rfl, rfl⟩
    conv => whnf
    repeat (first | (refine acond_t (b2) ?_; conv => whnf))
    conv => whnf
    repeat (first | (refine acond_t (b2) ?_; conv => whnf))
    conv => whnf
    repeat (first | (refine acond_t (b2) ?_; conv => whnf))
    conv => whnf
    repeat (first | (refine acond_t (b2) ?_; conv => whnf))
    conv => whnf
    repeat (first | (refine acond_t (b2) ?_; conv => whnf))
    conv => whnf
    repeat (first | (refine acond_t (b2) ?_; conv => whnf))
    conv => whnf
    repeat (first | (refine acond_t (b2) ?_; conv => whnf))
    conv => whnf
    repeat (first | (refine acond_t (b2) ?_; conv => whnf))
    conv => whnf
    repeat (first | (refine acond_t (b2) ?_; conv => whnf))
    conv => whnf
    refine ACall.mono (aroundR_spec tl true (by omega)) ?_; rintro r0 H ⟨rfl, rfl⟩
    conv => whnf
    refine ⟨by have := al true; simp only [sb_size]; show 4 + _ ≤ _; omega, ?_⟩
    conv => whnf
    refine ⟨congrArg (fun z => ARes.ret (AV.s z)) ?_, rfl⟩
    show sb wNotS ++ sb (around tl true) = _
    rw [sb_append]
  · have b2 : (k == 2) = false := by simpa using h2
    rw [if_neg h2]
    refine ACall.enter tok false Tryd.func22 rfl rfl rfl (AW_sound (ip := false) tok _ _ _ _ ?_)
    conv => whnf
    refine ADraw.tree tok mixed false [3, 8, 11, 17, 20] [0, 1, 2, 3, 5, 6, 7, 8, 9, 10, 11, 12] (.node (.cons 4 (.node (.cons 13 (.node (.cons 14 (.node (.cons 15 (.node (.cons 16 (.node (.cons 17 (.node (.cons 18 (.node (.cons 19 (.node (.cons 20 (.node (.cons 21 (.node (.cons 22 (.node (.cons 23 (.node (.cons 24 (.node (.cons 25 (.node .nil) .nil)) .nil)) .nil)) .nil)) .nil)) .nil)) .nil)) .nil)) .nil)) .nil)) .nil)) .nil)) .nil)) .nil)) (by kernel_rfl) (fun _ _ _ _ h => h) ?_
    conv => whnf
    refine ACall.mono ihl ?_; rintro r0 H ⟨rfl, rfl⟩
    conv => whnf
    repeat (first | (refine acond_f (b2) ?_; conv => whnf))
    conv => whnf
    repeat (first | (refine acond_f (b2) ?_; conv => whnf))
    conv => whnf
    repeat (first | (refine acond_f (b2) ?_; conv => whnf))
    conv => whnf
    repeat (first | (refine acond_f (b2) ?_; conv => whnf))
    conv => whnf
    repeat (first | (refine acond_f (b2) ?_; conv => whnf))
    conv => whnf
    repeat (first | (refine acond_f (b2) ?_; conv => whnf))
    conv => whnf
    repeat (first | (refine acond_f (b2) ?_; conv => whnf))
    conv => whnf
    repeat (first | (refine acond_f (b2) ?_; conv => whnf))
    conv => whnf
    repeat (first | (refine acond_f (b2) ?_; conv => whnf))
    conv => whnf
    refine ACall.mono (aroundR_spec tl (k == 3) (by omega)) ?_; rintro r0 H ⟨rfl, rfl⟩
    conv => whnf
    refine ⟨by have := al (k == 3); simp only [sb_size]; show 4 + _ ≤ _; omega, ?_⟩
    conv => whnf
    refine ⟨congrArg (fun z => ARes.ret (AV.s z)) ?_, rfl⟩
    show sb wNotS ++ sb (around tl (k == 3)) = _
    rw [sb_append]
theorem textR_3 (l r : Ex) (hl : GT l) (hr : GT r) (hll : (l.txt 0).length ≤ 100000000000) (hrl : (r.txt 0).length ≤ 100000000000) (ihl : textROK l) (ihr : textROK r) : textROK (.nd 3 [] [] 0 l r) := by
  obtain ⟨k, wk, ok, nk, ak, bk, rfl⟩ : ∃ k w o n a b, l = .nd k w o n a b := by
    cases hl <;> exact ⟨_, _, _, _, _, _, rfl⟩
  obtain ⟨j, wj, oj, nj, aj, bj, rfl⟩ : ∃ k w o n a b, r = .nd k w o n a b := by
    cases hr <;> exact ⟨_, _, _, _, _, _, rfl⟩
  have hxl := txt_around k wk ok nk ak bk 1
  rw [binds_1] at hxl
  have hxr := txt_around j wj oj nj aj bj 2
  rw [binds_2] at hxr
  have htx : (Ex.nd 3 [] [] 0 (Ex.nd k wk ok nk ak bk) (Ex.nd j wj oj nj aj bj)).txt 0 = (Ex.nd k wk ok nk ak bk).txt 1 ++ (wOrS ++ (Ex.nd j wj oj nj aj bj).txt 2) := by
    generalize (Ex.nd k wk ok nk ak bk) = x
    generalize (Ex.nd j wj oj nj aj bj) = y
    simp only [Ex.txt, around]; rfl
  rw [hxl, hxr] at htx
  unfold textROK at ihl ihr ⊢
  rw [htx]
  generalize (Ex.nd k wk ok nk ak bk).txt 0 = tl at hll ihl ⊢
  generalize (Ex.nd j wj oj nj aj bj).txt 0 = tr at hrl ihr ⊢
  clear htx hxl hxr
  have al : ∀ c : Bool, (around tl c).length ≤ 100000000002 := fun c => Nat.le_trans (around_len tl c) (by omega)
  have ar : ∀ c : Bool, (around tr c).length ≤ 100000000002 := fun c => Nat.le_trans (around_len tr c) (by omega)
  refine ACall.enter tok false Tryd.func22 rfl rfl rfl (AW_sound (ip := false) tok _ _ _ _ ?_)
  conv => whnf
  refine ADraw.tree tok mixed false [3, 9, 14, 17] [0, 1, 2, 3, 6, 7, 8, 9, 11, 12, 13, 14, 15, 16, 17, 18] (.node (.cons 4 (.node (.cons 5 (.node (.cons 10 (.node (.cons 19 (.node (.cons 20 (.node (.cons 21 (.node .nil) .nil)) .nil)) .nil)) .nil)) (.cons 10 (.node (.cons 5 (.node (.cons 19 (.node (.cons 20 (.node (.cons 21 (.node .nil) .nil)) .nil)) .nil)) (.cons 19 (.node (.cons 5 (.node (.cons 20 (.node (.cons 21 (.node .nil) .nil)) .nil)) .nil)) .nil))) .nil))) .nil)) (by kernel_rfl) (fun _ _ _ _ h => h) ?_
  conv => whnf
  refine ACall.mono ihl ?_; rintro r0 H ⟨rfl, rfl⟩
  conv => whnf
  refine (And.intro ?_ (And.intro ?_ trivial))
  · conv => whnf
    refine ⟨by simp only [sb_size]; show _ + 4 ≤ _; omega, ?_⟩
    conv => whnf
    refine ACall.mono ihr ?_; rintro r0 H ⟨rfl, rfl⟩
    conv => whnf
    refine ACall.mono (aroundR_spec tr (j == 3) (by omega)) ?_; rintro r0 H ⟨rfl, rfl⟩
    conv => whnf
    refine ⟨by have := ar (j == 3); simp only [ByteArray.size_append, sb_size]; show _ + 4 + _ ≤ _; omega, ?_⟩
    conv => whnf
    refine ⟨congrArg (fun z => ARes.ret (AV.s z)) ?_, rfl⟩
    show sb tl ++ sb wOrS ++ sb (around tr (j == 3)) = _
    simp only [sb_append, List.append_assoc]; rfl
  · conv => whnf
    refine ACall.mono ihr ?_; rintro r0 H ⟨rfl, rfl⟩
    conv => whnf
    refine (And.intro ?_ (And.intro ?_ trivial))
    · conv => whnf
      refine ⟨by simp only [sb_size]; show _ + 4 ≤ _; omega, ?_⟩
      conv => whnf
      refine ACall.mono (aroundR_spec tr (j == 3) (by omega)) ?_; rintro r0 H ⟨rfl, rfl⟩
      conv => whnf
      refine ⟨by have := ar (j == 3); simp only [ByteArray.size_append, sb_size]; show _ + 4 + _ ≤ _; omega, ?_⟩
      conv => whnf
      refine ⟨congrArg (fun z => ARes.ret (AV.s z)) ?_, rfl⟩
      show sb tl ++ sb wOrS ++ sb (around tr (j == 3)) = _
      simp only [sb_append, List.append_assoc]; rfl
    · conv => whnf
      refine ACall.mono (aroundR_spec tr (j == 3) (by omega)) ?_; rintro r0 H ⟨rfl, rfl⟩
      conv => whnf
      refine ⟨by simp only [sb_size]; show _ + 4 ≤ _; omega, ?_⟩
      conv => whnf
      refine ⟨by have := ar (j == 3); simp only [ByteArray.size_append, sb_size]; show _ + 4 + _ ≤ _; omega, ?_⟩
      conv => whnf
      refine ⟨congrArg (fun z => ARes.ret (AV.s z)) ?_, rfl⟩
      show sb tl ++ sb wOrS ++ sb (around tr (j == 3)) = _
      simp only [sb_append, List.append_assoc]; rfl
theorem textR_2 (l r : Ex) (hl : GT l) (hr : GT r) (hll : (l.txt 0).length ≤ 100000000000) (hrl : (r.txt 0).length ≤ 100000000000) (ihl : textROK l) (ihr : textROK r) : textROK (.nd 2 [] [] 0 l r) := by
  obtain ⟨k, wk, ok, nk, ak, bk, rfl⟩ : ∃ k w o n a b, l = .nd k w o n a b := by
    cases hl <;> exact ⟨_, _, _, _, _, _, rfl⟩
  obtain ⟨j, wj, oj, nj, aj, bj, rfl⟩ : ∃ k w o n a b, r = .nd k w o n a b := by
    cases hr <;> exact ⟨_, _, _, _, _, _, rfl⟩
  have hxl := txt_around k wk ok nk ak bk 2
  rw [binds_2] at hxl
  have hxr := txt_around j wj oj nj aj bj 3
  rw [binds_3] at hxr
  have htx : (Ex.nd 2 [] [] 0 (Ex.nd k wk ok nk ak bk) (Ex.nd j wj oj nj aj bj)).txt 0 = (Ex.nd k wk ok nk ak bk).txt 2 ++ (wAndS ++ (Ex.nd j wj oj nj aj bj).txt 3) := by
    generalize (Ex.nd k wk ok nk ak bk) = x
    generalize (Ex.nd j wj oj nj aj bj) = y
    simp only [Ex.txt, around]; rfl
  rw [hxl, hxr] at htx
  unfold textROK at ihl ihr ⊢
  rw [htx]
  generalize (Ex.nd k wk ok nk ak bk).txt 0 = tl at hll ihl ⊢
  generalize (Ex.nd j wj oj nj aj bj).txt 0 = tr at hrl ihr ⊢
  clear htx hxl hxr
  have al : ∀ c : Bool, (around tl c).length ≤ 100000000002 := fun c => Nat.le_trans (around_len tl c) (by omega)
  have ar : ∀ c : Bool, (around tr c).length ≤ 100000000002 := fun c => Nat.le_trans (around_len tr c) (by omega)
  have b4 : ((j == 2) || (j == 3)) = if j = 2 then true else (j == 3) := by
    by_cases h : j = 2
    · subst h; rfl
    · rw [show (j == 2) = false from by simpa using h, if_neg h, Bool.false_or]
  rw [b4]
  by_cases h2 : j = 2
  · have b2 : (j == 2) = true := by simpa using h2
    rw [if_pos h2]
    refine ACall.enter tok false Tryd.func22 rfl rfl rfl (AW_sound (ip := false) tok _ _ _ _ ?_)
    conv => whnf
    refine ADraw.tree tok mixed false [3, 8, 11, 18, 23, 26, 32, 35] [0, 1, 2, 3, 5, 6, 7, 8, 9, 10, 11, 12, 15, 16, 17, 18, 20, 21, 22, 23, 24, 25, 26, 27] (.node (.cons 4 (.node (.cons 13 (.node (.cons 14 (.node (.cons 19 (.node (.cons 28 (.node (.cons 29 (.node (.cons 30 (.node (.cons 31 (.node (.cons 32 (.node (.cons 33 (.node (.cons 34 (.node (.cons 35 (.node (.cons 36 (.node (.cons 37 (.node (.cons 38 (.node (.cons 39 (.node (.cons 40 (.node .nil) .nil)) .nil)) .nil)) .nil)) .nil)) .nil)) .nil)) .nil)) .nil)) .nil)) .nil)) .nil)) .nil)) .nil)) (.cons 19 (.node (.cons 14 (.node (.cons 28 (.node (.cons 29 (.node (.cons 30 (.node (.cons 31 (.node (.cons 32 (.node (.cons 33 (.node (.cons 34 (.node (.cons 35 (.node (.cons 36 (.node (.cons 37 (.node (.cons 38 (.node (.cons 39 (.node (.cons 40 (.node .nil) .nil)) .nil)) .nil)) .nil)) .nil)) .nil)) .nil)) .nil)) .nil)) .nil)) .nil)) .nil)) .nil)) (.cons 28 (.node (.cons 14 (.node (.cons 29 (.node (.cons 30 (.node (.cons 31 (.node (.cons 32 (.node (.cons 33 (.node (.cons 34 (.node (.cons 35 (.node (.cons 36 (.node (.cons 37 (.node (.cons 38 (.node (.cons 39 (.node (.cons 40 (.node .nil) .nil)) .nil)) .nil)) .nil)) .nil)) .nil)) .nil)) .nil)) .nil)) .nil)) .nil)) .nil)) (.cons 29 (.node (.cons 14 (.node (.cons 30 (.node (.cons 31 (.node (.cons 32 (.node (.cons 33 (.node (.cons 34 (.node (.cons 35 (.node (.cons 36 (.node (.cons 37 (.node (.cons 38 (.node (.cons 39 (.node (.cons 40 (.node .nil) .nil)) .nil)) .nil)) .nil)) .nil)) .nil)) .nil)) .nil)) .nil)) .nil)) .nil)) (.cons 30 (.node (.cons 14 (.node (.cons 31 (.node (.cons 32 (.node (.cons 33 (.node (.cons 34 (.node (.cons 35 (.node (.cons 36 (.node (.cons 37 (.node (.cons 38 (.node (.cons 39 (.node (.cons 40 (.node .nil) .nil)) .nil)) .nil)) .nil)) .nil)) .nil)) .nil)) .nil)) .nil)) .nil)) (.cons 31 (.node (.cons 14 (.node (.cons 32 (.node (.cons 33 (.node (.cons 34 (.node (.cons 35 (.node (.cons 36 (.node (.cons 37 (.node (.cons 38 (.node (.cons 39 (.node (.cons 40 (.node .nil) .nil)) .nil)) .nil)) .nil)) .nil)) .nil)) .nil)) .nil)) .nil)) (.cons 32 (.node (.cons 14 (.node (.cons 33 (.node (.cons 34 (.node (.cons 35 (.node (.cons 36 (.node (.cons 37 (.node (.cons 38 (.node (.cons 39 (.node (.cons 40 (.node .nil) .nil)) .nil)) .nil)) .nil)) .nil)) .nil)) .nil)) .nil)) (.cons 33 (.node (.cons 14 (.node (.cons 34 (.node (.cons 35 (.node (.cons 36 (.node (.cons 37 (.node (.cons 38 (.node (.cons 39 (.node (.cons 40 (.node .nil) .nil)) .nil)) .nil)) .nil)) .nil)) .nil)) .nil)) (.cons 34 (.node (.cons 14 (.node (.cons 35 (.node (.cons 36 (.node (.cons 37 (.node (.cons 38 (.node (.cons 39 (.node (.cons 40 (.node .nil) .nil)) .nil)) .nil)) .nil)) .nil)) .nil)) (.cons 35 (.node (.cons 14 (.node (.cons 36 (.node (.cons 37 (.node (.cons 38 (.node (.cons 39 (.node (.cons 40 (.node .nil) .nil)) .nil)) .nil)) .nil)) .nil)) (.cons 36 (.node (.cons 14 (.node (.cons 37 (.node (.cons 38 (.node (.cons 39 (.node (.cons 40 (.node .nil) .nil)) .nil)) .nil)) .nil)) (.cons 37 (.node (.cons 14 (.node (.cons 38 (.node (.cons 39 (.node (.cons 40 (.node .nil) .nil)) .nil)) .nil)) (.cons 38 (.node (.cons 14 (.node (.cons 39 (.node (.cons 40 (.node .nil) .nil)) .nil)) .nil)) .nil))) .nil))) .nil))) .nil))) .nil))) .nil))) .nil))) .nil))) .nil))) .nil))) .nil))) .nil))) .nil)) .nil)) (by kernel_rfl) (fun _ _ _ _ h => h) ?_
    conv => whnf
    refine ACall.mono ihl ?_; rintro r0 H ⟨rfl, rfl⟩
    conv => whnf
    refine ACall.mono (aroundR_spec tl (k == 3) (by omega)) ?_; rintro r0 H ⟨rfl, rfl⟩
    conv => whnf
    refine (And.intro ?_ (And.intro ?_ trivial))
    · conv => whnf
      refine ⟨by have := al (k == 3); simp only [sb_size]; show _ + 5 ≤ _; omega, ?_⟩
      conv => whnf
      refine ACall.mono ihr ?_; rintro r0 H ⟨rfl, rfl⟩
      conv => whnf
      repeat (first | (refine acond_t (b2) ?_; conv => whnf))
      conv => whnf
      repeat (first | (refine acond_t (b2) ?_; conv => whnf))
      conv => whnf
      repeat (first | (refine acond_t (b2) ?_; conv => whnf))
      conv => whnf
      repeat (first | (refine acond_t (b2) ?_; conv => whnf))
      conv => whnf
      repeat (first | (refine acond_t (b2) ?_; conv => whnf))
      conv => whnf
      repeat (first | (refine acond_t (b2) ?_; conv => whnf))
      conv => whnf
      repeat (first | (refine acond_t (b2) ?_; conv => whnf))
      conv => whnf
      repeat (first | (refine acond_t (b2) ?_; conv => whnf))
      conv => whnf
      repeat (first | (refine acond_t (b2) ?_; conv => whnf))
      conv => whnf
      refine ACall.mono (aroundR_spec tr true (by omega)) ?_; rintro r0 H ⟨rfl, rfl⟩
      conv => whnf
      refine ⟨by have := al (k == 3); have := ar true; simp only [ByteArray.size_append, sb_size]; show _ + 5 + _ ≤ _; omega, ?_⟩
      conv => whnf
      refine ⟨congrArg (fun z => ARes.ret (AV.s z)) ?_, rfl⟩
      show sb (around tl (k == 3)) ++ sb wAndS ++ sb (around tr true) = _
      simp only [sb_append, List.append_assoc]
    · conv => whnf
      refine ACall.mono ihr ?_; rintro r0 H ⟨rfl, rfl⟩
      conv => whnf
      refine (And.intro ?_ (And.intro ?_ trivial))
      · conv => whnf
        refine ⟨by have := al (k == 3); simp only [sb_size]; show _ + 5 ≤ _; omega, ?_⟩
        conv => whnf
        repeat (first | (refine acond_t (b2) ?_; conv => whnf))
        conv => whnf
        repeat (first | (refine acond_t (b2) ?_; conv => whnf))
        conv => whnf
        repeat (first | (refine acond_t (b2) ?_; conv => whnf))
        conv => whnf
        repeat (first | (refine acond_t (b2) ?_; conv => whnf))
        conv => whnf
        repeat (first | (refine acond_t (b2) ?_; conv => whnf))
        conv => whnf
        repeat (first | (refine acond_t (b2) ?_; conv => whnf))
        conv => whnf
        repeat (first | (refine acond_t (b2) ?_; conv => whnf))
        conv => whnf
        repeat (first | (refine acond_t (b2) ?_; conv => whnf))
        conv => whnf
        repeat (first | (refine acond_t (b2) ?_; conv => whnf))
        conv => whnf
        refine ACall.mono (aroundR_spec tr true (by omega)) ?_; rintro r0 H ⟨rfl, rfl⟩
        conv => whnf
        refine ⟨by have := al (k == 3); have := ar true; simp only [ByteArray.size_append, sb_size]; show _ + 5 + _ ≤ _; omega, ?_⟩
        conv => whnf
        refine ⟨congrArg (fun z => ARes.ret (AV.s z)) ?_, rfl⟩
        show sb (around tl (k == 3)) ++ sb wAndS ++ sb (around tr true) = _
        simp only [sb_append, List.append_assoc]
      · conv => whnf
        refine (And.intro ?_ (And.intro ?_ trivial))
        · conv => whnf
          refine ⟨by have := al (k == 3); simp only [sb_size]; show _ + 5 ≤ _; omega, ?_⟩
          conv => whnf
          repeat (first | (refine acond_t (b2) ?_; conv => whnf))
          conv => whnf
          repeat (first | (refine acond_t (b2) ?_; conv => whnf))
          conv => whnf
          repeat (first | (refine acond_t (b2) ?_; conv => whnf))
          conv => whnf
          repeat (first | (refine acond_t (b2) ?_; conv => whnf))
          conv => whnf
          repeat (first | (refine acond_t (b2) ?_; conv => whnf))
          conv => whnf
          repeat (first | (refine acond_t (b2) ?_; conv => whnf))
          conv => whnf
          repeat (first | (refine acond_t (b2) ?_; conv => whnf))
          conv => whnf
          repeat (first | (refine acond_t (b2) ?_; conv => whnf))
          conv => whnf
          repeat (first | (refine acond_t (b2) ?_; conv => whnf))
          conv => whnf
          refine ACall.mono (aroundR_spec tr true (by omega)) ?_; rintro r0 H ⟨rfl, rfl⟩
          conv => whnf
          refine ⟨by have := al (k == 3); have := ar true; simp only [ByteArray.size_append, sb_size]; show _ + 5 + _ ≤ _; omega, ?_⟩
          conv => whnf
          refine ⟨congrArg (fun z => ARes.ret (AV.s z)) ?_, rfl⟩
          show sb (around tl (k == 3)) ++ sb wAndS ++ sb (around tr true) = _
          simp only [sb_append, List.append_assoc]
        · conv => whnf
          repeat (first | (refine acond_t (b2) ?_; conv => whnf))
          conv => whnf
          refine (And.intro ?_ (And.intro ?_ trivial))
          · conv => whnf
            refine ⟨by have := al (k == 3); simp only [sb_size]; show _ + 5 ≤ _; omega, ?_⟩
            conv => whnf
            repeat (first | (refine acond_t (b2) ?_; conv => whnf))
            conv => whnf
            repeat (first | (refine acond_t (b2) ?_; conv => whnf))
            conv => whnf
            repeat (first | (refine acond_t (b2) ?_; conv => whnf))
            conv => whnf
            repeat (first | (refine acond_t (b2) ?_; conv => whnf))
            conv => whnf
            repeat (first | (refine acond_t (b2) ?_; conv => whnf))
            conv => whnf
            repeat (first | (refine acond_t (b2) ?_; conv => whnf))
            conv => whnf
            repeat (first | (refine acond_t (b2) ?_; conv => whnf))
            conv => whnf
            repeat (first | (refine acond_t (b2) ?_; conv => whnf))
            conv => whnf
            refine ACall.mono (aroundR_spec tr true (by omega)) ?_; rintro r0 H ⟨rfl, rfl⟩
            conv => whnf
            refine ⟨by have := al (k == 3); have := ar true; simp only [ByteArray.size_append, sb_size]; show _ + 5 + _ ≤ _; omega, ?_⟩
            conv => whnf
            refine ⟨congrArg (fun z => ARes.ret (AV.s z)) ?_, rfl⟩
            show sb (around tl (k == 3)) ++ sb wAndS ++ sb (around tr true) = _
            simp only [sb_append, List.append_assoc]
          · conv => whnf
            repeat (first | (refine acond_t (b2) ?_; conv => whnf))
            conv => whnf
            refine (And.intro ?_ (And.intro ?_ trivial))
            · conv => whnf
              refine ⟨by have := al (k == 3); simp only [sb_size]; show _ + 5 ≤ _; omega, ?_⟩
              conv => whnf
              repeat (first | (refine acond_t (b2) ?_; conv => whnf))
              conv => whnf
              repeat (first | (refine acond_t (b2) ?_; conv => whnf))
              conv => whnf
              repeat (first | (refine acond_t (b2) ?_; conv => whnf))
              conv => whnf
              repeat (first | (refine acond_t (b2) ?_; conv => whnf))
              conv => whnf
              repeat (first | (refine acond_t (b2) ?_; conv => whnf))
              conv => whnf
              repeat (first | (refine acond_t (b2) ?_; conv => whnf))
              conv => whnf
              repeat (first | (refine acond_t (b2) ?_; conv => whnf))
              conv => whnf
              refine ACall.mono (aroundR_spec tr true (by omega)) ?_; rintro r0 H ⟨rfl, rfl⟩
              conv => whnf
              refine ⟨by have := al (k == 3); have := ar true; simp only [ByteArray.size_append, sb_size]; show _ + 5 + _ ≤ _; omega, ?_⟩
              conv => whnf
              refine ⟨congrArg (fun z => ARes.ret (AV.s z)) ?_, rfl⟩
              show sb (around tl (k == 3)) ++ sb wAndS ++ sb (around tr true) = _
              simp only [sb_append, List.append_assoc]
            · conv => whnf
              repeat (first | (refine acond_t (b2) ?_; conv => whnf))
              conv => whnf
              refine (And.intro ?_ (And.intro ?_ trivial))
              · conv => whnf
                refine ⟨by have := al (k == 3); simp only [sb_size]; show _ + 5 ≤ _; omega, ?_⟩
                conv => whnf
                repeat (first | (refine acond_t (b2) ?_; conv => whnf))
                conv => whnf
                repeat (first | (refine acond_t (b2) ?_; conv => whnf))
                conv => whnf
                repeat (first | (refine acond_t (b2) ?_; conv => whnf))
                conv => whnf
                repeat (first | (refine acond_t (b2) ?_; conv => whnf))
                conv => whnf
                repeat (first | (refine acond_t (b2) ?_; conv => whnf))
                conv => whnf
                repeat (first | (refine acond_t (b2) ?_; conv => whnf))
                conv => whnf
                refine ACall.mono (aroundR_spec tr true (by omega)) ?_; rintro r0 H ⟨rfl, rfl⟩
                conv => whnf
                refine ⟨by have := al (k == 3); have := ar true; simp only [ByteArray.size_append, sb_size]; show _ + 5 + _ ≤ _; omega, ?_⟩
                conv => whnf
                refine ⟨congrArg (fun z => ARes.ret (AV.s z)) ?_, rfl⟩
                show sb (around tl (k == 3)) ++ sb wAndS ++ sb (around tr true) = _
                simp only [sb_append, List.append_assoc]
              · conv => whnf
                repeat (first | (refine acond_t (b2) ?_; conv => whnf))
                conv => whnf
                refine (And.intro ?_ (And.intro ?_ trivial))
                · conv => whnf
                  refine ⟨by have := al (k == 3); simp only [sb_size]; show _ + 5 ≤ _; omega, ?_⟩
                  conv => whnf
                  repeat (first | (refine acond_t (b2) ?_; conv => whnf))
                  conv => whnf
                  repeat (first | (refine acond_t (b2) ?_; conv => whnf))
                  conv => whnf
                  repeat (first | (refine acond_t (b2) ?_; conv => whnf))
                  conv => whnf
                  repeat (first | (refine acond_t (b2) ?_; conv => whnf))
                  conv => whnf
                  repeat (first | (refine acond_t (b2) ?_; conv => whnf))
                  conv => whnf
                  refine ACall.mono (aroundR_spec tr true (by omega)) ?_; rintro r0 H ⟨rfl, rfl⟩
                  conv => whnf
                  refine ⟨by have := al (k == 3); have := ar true; simp only [ByteArray.size_append, sb_size]; show _ + 5 + _ ≤ _; omega, ?_⟩
                  conv => whnf
                  refine ⟨congrArg (fun z => ARes.ret (AV.s z)) ?_, rfl⟩
                  show sb (around tl (k == 3)) ++ sb wAndS ++ sb (around tr true) = _
                  simp only [sb_append, List.append_assoc]
                · conv => whnf
                  repeat (first | (refine acond_t (b2) ?_; conv => whnf))
                  conv => whnf
                  refine (And.intro ?_ (And.intro ?_ trivial))
                  · conv => whnf
                    refine ⟨by have := al (k == 3); simp only [sb_size]; show _ + 5 ≤ _; omega, ?_⟩
                    conv => whnf
                    repeat (first | (refine acond_t (b2) ?_; conv => whnf))
                    conv => whnf
                    repeat (first | (refine acond_t (b2) ?_; conv => whnf))
                    conv => whnf
                    repeat (first | (refine acond_t (b2) ?_; conv => whnf))
                    conv => whnf
                    repeat (first | (refine acond_t (b2) ?_; conv => whnf))
                    conv => whnf
                    refine ACall.mono (aroundR_spec tr true (by omega)) ?_; rintro r0 H ⟨rfl, rfl⟩
                    conv => whnf
                    refine ⟨by have := al (k == 3); have := ar true; simp only [ByteArray.size_append, sb_size]; show _ + 5 + _ ≤ _; omega, ?_⟩
                    conv => whnf
                    refine ⟨congrArg (fun z => ARes.ret (AV.s z)) ?_, rfl⟩
                    show sb (around tl (k == 3)) ++ sb wAndS ++ sb (around tr true) = _
                    simp only [sb_append, List.append_assoc]
                  · conv => whnf
                    repeat (first | (refine acond_t (b2) ?_; conv => whnf))
                    conv => whnf
                    refine (And.intro ?_ (And.intro ?_ trivial))
                    · conv => whnf
                      refine ⟨by have := al (k == 3); simp only [sb_size]; show _ + 5 ≤ _; omega, ?_⟩
                      conv => whnf
                      repeat (first | (refine acond_t (b2) ?_; conv => whnf))
                      conv => whnf
                      repeat (first | (refine acond_t (b2) ?_; conv => whnf))
                      conv => whnf
                      repeat (first | (refine acond_t (b2) ?_; conv => whnf))
                      conv => whnf
                      refine ACall.mono (aroundR_spec tr true (by omega)) ?_; rintro r0 H ⟨rfl, rfl⟩
                      conv => whnf
                      refine ⟨by have := al (k == 3); have := ar true; simp only [ByteArray.size_append, sb_size]; show _ + 5 + _ ≤ _; omega, ?_⟩
                      conv => whnf
                      refine ⟨congrArg (fun z => ARes.ret (AV.s z)) ?_, rfl⟩
                      show sb (around tl (k == 3)) ++ sb wAndS ++ sb (around tr true) = _
                      simp only [sb_append, List.append_assoc]
                    · conv => whnf
                      repeat (first | (refine acond_t (b2) ?_; conv => whnf))
                      conv => whnf
                      refine (And.intro ?_ (And.intro ?_ trivial))
                      · conv => whnf
                        refine ⟨by have := al (k == 3); simp only [sb_size]; show _ + 5 ≤ _; omega, ?_⟩
                        conv => whnf
                        repeat (first | (refine acond_t (b2) ?_; conv => whnf))
                        conv => whnf
                        repeat (first | (refine acond_t (b2) ?_; conv => whnf))
                        conv => whnf
                        refine ACall.mono (aroundR_spec tr true (by omega)) ?_; rintro r0 H ⟨rfl, rfl⟩
                        conv => whnf
                        refine ⟨by have := al (k == 3); have := ar true; simp only [ByteArray.size_append, sb_size]; show _ + 5 + _ ≤ _; omega, ?_⟩
                        conv => whnf
                        refine ⟨congrArg (fun z => ARes.ret (AV.s z)) ?_, rfl⟩
                        show sb (around tl (k == 3)) ++ sb wAndS ++ sb (around tr true) = _
                        simp only [sb_append, List.append_assoc]
                      · conv => whnf
                        repeat (first | (refine acond_t (b2) ?_; conv => whnf))
                        conv => whnf
                        refine (And.intro ?_ (And.intro ?_ trivial))
                        · conv => whnf
                          refine ⟨by have := al (k == 3); simp only [sb_size]; show _ + 5 ≤ _; omega, ?_⟩
                          conv => whnf
                          repeat (first | (refine acond_t (b2) ?_; conv => whnf))
                          conv => whnf
                          refine ACall.mono (aroundR_spec tr true (by omega)) ?_; rintro r0 H ⟨rfl, rfl⟩
                          conv => whnf
                          refine ⟨by have := al (k == 3); have := ar true; simp only [ByteArray.size_append, sb_size]; show _ + 5 + _ ≤ _; omega, ?_⟩
                          conv => whnf
                          refine ⟨congrArg (fun z => ARes.ret (AV.s z)) ?_, rfl⟩
                          show sb (around tl (k == 3)) ++ sb wAndS ++ sb (around tr true) = _
                          simp only [sb_append, List.append_assoc]
                        · conv => whnf
                          repeat (first | (refine acond_t (b2) ?_; conv => whnf))
                          conv => whnf
                          refine (And.intro ?_ (And.intro ?_ trivial))
                          · conv => whnf
                            refine ⟨by have := al (k == 3); simp only [sb_size]; show _ + 5 ≤ _; omega, ?_⟩
                            conv => whnf
                            refine ACall.mono (aroundR_spec tr true (by omega)) ?_; rintro r0 H ⟨rfl, rfl⟩
                            conv => whnf
                            refine ⟨by have := al (k == 3); have := ar true; simp only [ByteArray.size_append, sb_size]; show _ + 5 + _ ≤ _; omega, ?_⟩
                            conv => whnf
                            refine ⟨congrArg (fun z => ARes.ret (AV.s z)) ?_, rfl⟩
                            show sb (around tl (k == 3)) ++ sb wAndS ++ sb (around tr true) = _
                            simp only [sb_append, List.append_assoc]
                          · conv => whnf
                            refine ACall.mono (aroundR_spec tr true (by omega)) ?_; rintro r0 H ⟨rfl, rfl⟩
                            conv => whnf
                            refine ⟨by have := al (k == 3); simp only [sb_size]; show _ + 5 ≤ _; omega, ?_⟩
                            conv => whnf
                            refine ⟨by have := al (k == 3); have := ar true; simp only [ByteArray.size_append, sb_size]; show _ + 5 + _ ≤ _; omega, ?_⟩
                            conv => whnf
                            refine ⟨congrArg (fun z => ARes.ret (AV.s z)) ?_, rfl⟩
                            show sb (around tl (k == 3)) ++ sb wAndS ++ sb (around tr true) = _
                            simp only [sb_append, List.append_assoc]
  · have b2 : (j == 2) = false := by simpa using h2
    rw [if_neg h2]
    refine ACall.enter tok false Tryd.func22 rfl rfl rfl (AW_sound (ip := false) tok _ _ _ _ ?_)
    conv => whnf
    refine ADraw.tree tok mixed false [3, 8, 11, 18, 23, 26, 32, 35] [0, 1, 2, 3, 5, 6, 7, 8, 9, 10, 11, 12, 15, 16, 17, 18, 20, 21, 22, 23, 24, 25, 26, 27] (.node (.cons 4 (.node (.cons 13 (.node (.cons 14 (.node (.cons 19 (.node (.cons 28 (.node (.cons 29 (.node (.cons 30 (.node (.cons 31 (.node (.cons 32 (.node (.cons 33 (.node (.cons 34 (.node (.cons 35 (.node (.cons 36 (.node (.cons 37 (.node (.cons 38 (.node (.cons 39 (.node (.cons 40 (.node .nil) .nil)) .nil)) .nil)) .nil)) .nil)) .nil)) .nil)) .nil)) .nil)) .nil)) .nil)) .nil)) .nil)) .nil)) (.cons 19 (.node (.cons 14 (.node (.cons 28 (.node (.cons 29 (.node (.cons 30 (.node (.cons 31 (.node (.cons 32 (.node (.cons 33 (.node (.cons 34 (.node (.cons 35 (.node (.cons 36 (.node (.cons 37 (.node (.cons 38 (.node (.cons 39 (.node (.cons 40 (.node .nil) .nil)) .nil)) .nil)) .nil)) .nil)) .nil)) .nil)) .nil)) .nil)) .nil)) .nil)) .nil)) .nil)) (.cons 28 (.node (.cons 14 (.node (.cons 29 (.node (.cons 30 (.node (.cons 31 (.node (.cons 32 (.node (.cons 33 (.node (.cons 34 (.node (.cons 35 (.node (.cons 36 (.node (.cons 37 (.node (.cons 38 (.node (.cons 39 (.node (.cons 40 (.node .nil) .nil)) .nil)) .nil)) .nil)) .nil)) .nil)) .nil)) .nil)) .nil)) .nil)) .nil)) .nil)) (.cons 29 (.node (.cons 14 (.node (.cons 30 (.node (.cons 31 (.node (.cons 32 (.node (.cons 33 (.node (.cons 34 (.node (.cons 35 (.node (.cons 36 (.node (.cons 37 (.node (.cons 38 (.node (.cons 39 (.node (.cons 40 (.node .nil) .nil)) .nil)) .nil)) .nil)) .nil)) .nil)) .nil)) .nil)) .nil)) .nil)) .nil)) (.cons 30 (.node (.cons 14 (.node (.cons 31 (.node (.cons 32 (.node (.cons 33 (.node (.cons 34 (.node (.cons 35 (.node (.cons 36 (.node (.cons 37 (.node (.cons 38 (.node (.cons 39 (.node (.cons 40 (.node .nil) .nil)) .nil)) .nil)) .nil)) .nil)) .nil)) .nil)) .nil)) .nil)) .nil)) (.cons 31 (.node (.cons 14 (.node (.cons 32 (.node (.cons 33 (.node (.cons 34 (.node (.cons 35 (.node (.cons 36 (.node (.cons 37 (.node (.cons 38 (.node (.cons 39 (.node (.cons 40 (.node .nil) .nil)) .nil)) .nil)) .nil)) .nil)) .nil)) .nil)) .nil)) .nil)) (.cons 32 (.node (.cons 14 (.node (.cons 33 (.node (.cons 34 (.node (.cons 35 (.node (.cons 36 (.node (.cons 37 (.node (.cons 38 (.node (.cons 39 (.node (.cons 40 (.node .nil) .nil)) .nil)) .nil)) .nil)) .nil)) .nil)) .nil)) .nil)) (.cons 33 (.node (.cons 14 (.node (.cons 34 (.node (.cons 35 (.node (.cons 36 (.node (.cons 37 (.node (.cons 38 (.node (.cons 39 (.node (.cons 40 (.node .nil) .nil)) .nil)) .nil)) .nil)) .nil)) .nil)) .nil)) (.cons 34 (.node (.cons 14 (.node (.cons 35 (.node (.cons 36 (.node (.cons 37 (.node (.cons 38 (.node (.cons 39 (.node (.cons 40 (.node .nil) .nil)) .nil)) .nil)) .nil)) .nil)) .nil)) (.cons 35 (.node (.cons 14 (.node (.cons 36 (.node (.cons 37 (.node (.cons 38 (.node (.cons 39 (.node (.cons 40 (.node .nil) .nil)) .nil)) .nil)) .nil)) .nil)) (.cons 36 (.node (.cons 14 (.node (.cons 37 (.node (.cons 38 (.node (.cons 39 (.node (.cons 40 (.node .nil) .nil)) .nil)) .nil)) .nil)) (.cons 37 (.node (.cons 14 (.node (.cons 38 (.node (.cons 39 (.node (.cons 40 (.node .nil) .nil)) .nil)) .nil)) (.cons 38 (.node (.cons 14 (.node (.cons 39 (.node (.cons 40 (.node .nil) .nil)) .nil)) .nil)) .nil))) .nil))) .nil))) .nil))) .nil))) .nil))) .nil))) .nil))) .nil))) .nil))) .nil))) .nil))) .nil)) .nil)) (by kernel_rfl) (fun _ _ _ _ h => h) ?_
    conv => whnf
    refine ACall.mono ihl ?_; rintro r0 H ⟨rfl, rfl⟩
    conv => whnf
    refine ACall.mono (aroundR_spec tl (k == 3) (by omega)) ?_; rintro r0 H ⟨rfl, rfl⟩
    conv => whnf
    refine (And.intro ?_ (And.intro ?_ trivial))
    · conv => whnf
      refine ⟨by have := al (k == 3); simp only [sb_size]; show _ + 5 ≤ _; omega, ?_⟩
      conv => whnf
      refine ACall.mono ihr ?_; rintro r0 H ⟨rfl, rfl⟩
      conv => whnf
      repeat (first | (refine acond_f (b2) ?_; conv => whnf))
      conv => whnf
      repeat (first | (refine acond_f (b2) ?_; conv => whnf))
      conv => whnf
      repeat (first | (refine acond_f (b2) ?_; conv => whnf))
      conv => whnf
      repeat (first | (refine acond_f (b2) ?_; conv => whnf))
      conv => whnf
      repeat (first | (refine acond_f (b2) ?_; conv => whnf))
      conv => whnf
      repeat (first | (refine acond_f (b2) ?_; conv => whnf))
      conv => whnf
      repeat (first | (refine acond_f (b2) ?_; conv => whnf))
      conv => whnf
      repeat (first | (refine acond_f (b2) ?_; conv => whnf))
      conv => whnf
      repeat (first | (refine acond_f (b2) ?_; conv => whnf))
      conv => whnf
      refine ACall.mono (aroundR_spec tr (j == 3) (by omega)) ?_; rintro r0 H ⟨rfl, rfl⟩
      conv => whnf
      refine ⟨by have := al (k == 3); have := ar (j == 3); simp only [ByteArray.size_append, sb_size]; show _ + 5 + _ ≤ _; omega, ?_⟩
      conv => whnf
      refine ⟨congrArg (fun z => ARes.ret (AV.s z)) ?_, rfl⟩
      show sb (around tl (k == 3)) ++ sb wAndS ++ sb (around tr (j == 3)) = _
      simp only [sb_append, List.append_assoc]
    · conv => whnf
      refine ACall.mono ihr ?_; rintro r0 H ⟨rfl, rfl⟩
      conv => whnf
      refine (And.intro ?_ (And.intro ?_ trivial))
      · conv => whnf
        refine ⟨by have := al (k == 3); simp only [sb_size]; show _ + 5 ≤ _; omega, ?_⟩
        conv => whnf
        repeat (first | (refine acond_f (b2) ?_; conv => whnf))
        conv => whnf
        repeat (first | (refine acond_f (b2) ?_; conv => whnf))
        conv => whnf
        repeat (first | (refine acond_f (b2) ?_; conv => whnf))
        conv => whnf
        repeat (first | (refine acond_f (b2) ?_; conv => whnf))
        conv => whnf
        repeat (first | (refine acond_f (b2) ?_; conv => whnf))
        conv => whnf
        repeat (first | (refine acond_f (b2) ?_; conv => whnf))
        conv => whnf
        repeat (first | (refine acond_f (b2) ?_; conv => whnf))
        conv => whnf
        repeat (first | (refine acond_f (b2) ?_; conv => whnf))
        conv => whnf
        repeat (first | (refine acond_f (b2) ?_; conv => whnf))
        conv => whnf
        refine ACall.mono (aroundR_spec tr (j == 3) (by omega)) ?_; rintro r0 H ⟨rfl, rfl⟩
        conv => whnf
        refine ⟨by have := al (k == 3); have := ar (j == 3); simp only [ByteArray.size_append, sb_size]; show _ + 5 + _ ≤ _; omega, ?_⟩
        conv => whnf
        refine ⟨congrArg (fun z => ARes.ret (AV.s z)) ?_, rfl⟩
        show sb (around tl (k == 3)) ++ sb wAndS ++ sb (around tr (j == 3)) = _
        simp only [sb_append, List.append_assoc]
      · conv => whnf
        refine (And.intro ?_ (And.intro ?_ trivial))
        · conv => whnf
          refine ⟨by have := al (k == 3); simp only [sb_size]; show _ + 5 ≤ _; omega, ?_⟩
          conv => whnf
          repeat (first | (refine acond_f (b2) ?_; conv => whnf))
          conv => whnf
          repeat (first | (refine acond_f (b2) ?_; conv => whnf))
          conv => whnf
          repeat (first | (refine acond_f (b2) ?_; conv => whnf))
          conv => whnf
          repeat (first | (refine acond_f (b2) ?_; conv => whnf))
          conv => whnf
          repeat (first | (refine acond_f (b2) ?_; conv => whnf))
          conv => whnf
          repeat (first | (refine acond_f (b2) ?_; conv => whnf))
          conv => whnf
          repeat (first | (refine acond_f (b2) ?_; conv => whnf))
          conv => whnf
          repeat (first | (refine acond_f (b2) ?_; conv => whnf))
          conv => whnf
          repeat (first | (refine acond_f (b2) ?_; conv => whnf))
          conv => whnf
          refine ACall.mono (aroundR_spec tr (j == 3) (by omega)) ?_; rintro r0 H ⟨rfl, rfl⟩
          conv => whnf
          refine ⟨by have := al (k == 3); have := ar (j == 3); simp only [ByteArray.size_append, sb_size]; show _ + 5 + _ ≤ _; omega, ?_⟩
          conv => whnf
          refine ⟨congrArg (fun z => ARes.ret (AV.s z)) ?_, rfl⟩
          show sb (around tl (k == 3)) ++ sb wAndS ++ sb (around tr (j == 3)) = _
          simp only [sb_append, List.append_assoc]
        · conv => whnf
          repeat (first | (refine acond_f (b2) ?_; conv => whnf))
          conv => whnf
          refine (And.intro ?_ (And.intro ?_ trivial))
          · conv => whnf
            refine ⟨by have := al (k == 3); simp only [sb_size]; show _ + 5 ≤ _; omega, ?_⟩
            conv => whnf
            repeat (first | (refine acond_f (b2) ?_; conv => whnf))
            conv => whnf
            repeat (first | (refine acond_f (b2) ?_; conv => whnf))
            conv => whnf
            repeat (first | (refine acond_f (b2) ?_; conv => whnf))
            conv => whnf
            repeat (first | (refine acond_f (b2) ?_; conv => whnf))
            conv => whnf
            repeat (first | (refine acond_f (b2) ?_; conv => whnf))
            conv => whnf
            repeat (first | (refine acond_f (b2) ?_; conv => whnf))
            conv => whnf
            repeat (first | (refine acond_f (b2) ?_; conv => whnf))
            conv => whnf
            repeat (first | (refine acond_f (b2) ?_; conv => whnf))
            conv => whnf
            refine ACall.mono (aroundR_spec tr (j == 3) (by omega)) ?_; rintro r0 H ⟨rfl, rfl⟩
            conv => whnf
            refine ⟨by have := al (k == 3); have := ar (j == 3); simp only [ByteArray.size_append, sb_size]; show _ + 5 + _ ≤ _; omega, ?_⟩
            conv => whnf
            refine ⟨congrArg (fun z => ARes.ret (AV.s z)) ?_, rfl⟩
            show sb (around tl (k == 3)) ++ sb wAndS ++ sb (around tr (j == 3)) = _
            simp only [sb_append, List.append_assoc]
          · conv => whnf
            repeat (first | (refine acond_f (b2) ?_; conv => whnf))
            conv => whnf
            refine (And.intro ?_ (And.intro ?_ trivial))
            · conv => whnf
              refine ⟨by have := al (k == 3); simp only [sb_size]; show _ + 5 ≤ _; omega, ?_⟩
              conv => whnf
              repeat (first | (refine acond_f (b2) ?_; conv => whnf))
              conv => whnf
              repeat (first | (refine acond_f (b2) ?_; conv => whnf))
              conv => whnf
              repeat (first | (refine acond_f (b2) ?_; conv => whnf))
              conv => whnf
              repeat (first | (refine acond_f (b2) ?_; conv => whnf))
              conv => whnf
              repeat (first | (refine acond_f (b2) ?_; conv => whnf))
              conv => whnf
              repeat (first | (refine acond_f (b2) ?_; conv => whnf))
              conv => whnf
              repeat (first | (refine acond_f (b2) ?_; conv => whnf))
              conv => whnf
              refine ACall.mono (aroundR_spec tr (j == 3) (by omega)) ?_; rintro r0 H ⟨rfl, rfl⟩
              conv => whnf
              refine ⟨by have := al (k == 3); have := ar (j == 3); simp only [ByteArray.size_append, sb_size]; show _ + 5 + _ ≤ _; omega, ?_⟩
              conv => whnf
              refine ⟨congrArg (fun z => ARes.ret (AV.s z)) ?_, rfl⟩
              show sb (around tl (k == 3)) ++ sb wAndS ++ sb (around tr (j == 3)) = _
              simp only [sb_append, List.append_assoc]
            · conv => whnf
              repeat (first | (refine acond_f (b2) ?_; conv => whnf))
              conv => whnf
              refine (And.intro ?_ (And.intro ?_ trivial))
              · conv => whnf
                refine ⟨by have := al (k == 3); simp only [sb_size]; show _ + 5 ≤ _; omega, ?_⟩
                conv => whnf
                repeat (first | (refine acond_f (b2) ?_; conv => whnf))
                conv => whnf
                repeat (first | (refine acond_f (b2) ?_; conv => whnf))
                conv => whnf
                repeat (first | (refine acond_f (b2) ?_; conv => whnf))
                conv => whnf
                repeat (first | (refine acond_f (b2) ?_; conv => whnf))
                conv => whnf
                repeat (first | (refine acond_f (b2) ?_; conv => whnf))
                conv => whnf
                repeat (first | (refine acond_f (b2) ?_; conv => whnf))
                conv => whnf
                refine ACall.mono (aroundR_spec tr (j == 3) (by omega)) ?_; rintro r0 H ⟨rfl, rfl⟩
                conv => whnf
                refine ⟨by have := al (k == 3); have := ar (j == 3); simp only [ByteArray.size_append, sb_size]; show _ + 5 + _ ≤ _; omega, ?_⟩
                conv => whnf
                refine ⟨congrArg (fun z => ARes.ret (AV.s z)) ?_, rfl⟩
                show sb (around tl (k == 3)) ++ sb wAndS ++ sb (around tr (j == 3)) = _
                simp only [sb_append, List.append_assoc]
              · conv => whnf
                repeat (first | (refine acond_f (b2) ?_; conv => whnf))
                conv => whnf
                refine (And.intro ?_ (And.intro ?_ trivial))
                · conv => whnf
                  refine ⟨by have := al (k == 3); simp only [sb_size]; show _ + 5 ≤ _; omega, ?_⟩
                  conv => whnf
                  repeat (first | (refine acond_f (b2) ?_; conv => whnf))
                  conv => whnf
                  repeat (first | (refine acond_f (b2) ?_; conv => whnf))
                  conv => whnf
                  repeat (first | (refine acond_f (b2) ?_; conv => whnf))
                  conv => whnf
                  repeat (first | (refine acond_f (b2) ?_; conv => whnf))
                  conv => whnf
                  repeat (first | (refine acond_f (b2) ?_; conv => whnf))
                  conv => whnf
                  refine ACall.mono (aroundR_spec tr (j == 3) (by omega)) ?_; rintro r0 H ⟨rfl, rfl⟩
                  conv => whnf
                  refine ⟨by have := al (k == 3); have := ar (j == 3); simp only [ByteArray.size_append, sb_size]; show _ + 5 + _ ≤ _; omega, ?_⟩
                  conv => whnf
                  refine ⟨congrArg (fun z => ARes.ret (AV.s z)) ?_, rfl⟩
                  show sb (around tl (k == 3)) ++ sb wAndS ++ sb (around tr (j == 3)) = _
                  simp only [sb_append, List.append_assoc]
                · conv => whnf
                  repeat (first | (refine acond_f (b2) ?_; conv => whnf))
                  conv => whnf
                  refine (And.intro ?_ (And.intro ?_ trivial))
                  · conv => whnf
                    refine ⟨by have := al (k == 3); simp only [sb_size]; show _ + 5 ≤ _; omega, ?_⟩
                    conv => whnf
                    repeat (first | (refine acond_f (b2) ?_; conv => whnf))
                    conv => whnf
                    repeat (first | (refine acond_f (b2) ?_; conv => whnf))
                    conv => whnf
                    repeat (first | (refine acond_f (b2) ?_; conv => whnf))
                    conv => whnf
                    repeat (first | (refine acond_f (b2) ?_; conv => whnf))
                    conv => whnf
                    refine ACall.mono (aroundR_spec tr (j == 3) (by omega)) ?_; rintro r0 H ⟨rfl, rfl⟩
                    conv => whnf
                    refine ⟨by have := al (k == 3); have := ar (j == 3); simp only [ByteArray.size_append, sb_size]; show _ + 5 + _ ≤ _; omega, ?_⟩
                    conv => whnf
                    refine ⟨congrArg (fun z => ARes.ret (AV.s z)) ?_, rfl⟩
                    show sb (around tl (k == 3)) ++ sb wAndS ++ sb (around tr (j == 3)) = _
                    simp only [sb_append, List.append_assoc]
                  · conv => whnf
                    repeat (first | (refine acond_f (b2) ?_; conv => whnf))
                    conv => whnf
                    refine (And.intro ?_ (And.intro ?_ trivial))
                    · conv => whnf
                      refine ⟨by have := al (k == 3); simp only [sb_size]; show _ + 5 ≤ _; omega, ?_⟩
                      conv => whnf
                      repeat (first | (refine acond_f (b2) ?_; conv => whnf))
                      conv => whnf
                      repeat (first | (refine acond_f (b2) ?_; conv => whnf))
                      conv => whnf
                      repeat (first | (refine acond_f (b2) ?_; conv => whnf))
                      conv => whnf
                      refine ACall.mono (aroundR_spec tr (j == 3) (by omega)) ?_; rintro r0 H ⟨rfl, rfl⟩
                      conv => whnf
                      refine ⟨by have := al (k == 3); have := ar (j == 3); simp only [ByteArray.size_append, sb_size]; show _ + 5 + _ ≤ _; omega, ?_⟩
                      conv => whnf
                      refine ⟨congrArg (fun z => ARes.ret (AV.s z)) ?_, rfl⟩
                      show sb (around tl (k == 3)) ++ sb wAndS ++ sb (around tr (j == 3)) = _
                      simp only [sb_append, List.append_assoc]
                    · conv => whnf
                      repeat (first | (refine acond_f (b2) ?_; conv => whnf))
                      conv => whnf
                      refine (And.intro ?_ (And.intro ?_ trivial))
                      · conv => whnf
                        refine ⟨by have := al (k == 3); simp only [sb_size]; show _ + 5 ≤ _; omega, ?_⟩
                        conv => whnf
                        repeat (first | (refine acond_f (b2) ?_; conv => whnf))
                        conv => whnf
                        repeat (first | (refine acond_f (b2) ?_; conv => whnf))
                        conv => whnf
                        refine ACall.mono (aroundR_spec tr (j == 3) (by omega)) ?_; rintro r0 H ⟨rfl, rfl⟩
                        conv => whnf
                        refine ⟨by have := al (k == 3); have := ar (j == 3); simp only [ByteArray.size_append, sb_size]; show _ + 5 + _ ≤ _; omega, ?_⟩
                        conv => whnf
                        refine ⟨congrArg (fun z => ARes.ret (AV.s z)) ?_, rfl⟩
                        show sb (around tl (k == 3)) ++ sb wAndS ++ sb (around tr (j == 3)) = _
                        simp only [sb_append, List.append_assoc]
                      · conv => whnf
                        repeat (first | (refine acond_f (b2) ?_; conv => whnf))
                        conv => whnf
                        refine (And.intro ?_ (And.intro ?_ trivial))
                        · conv => whnf
                          refine ⟨by have := al (k == 3); simp only [sb_size]; show _ + 5 ≤ _; omega, ?_⟩
                          conv => whnf
                          repeat (first | (refine acond_f (b2) ?_; conv => whnf))
                          conv => whnf
                          refine ACall.mono (aroundR_spec tr (j == 3) (by omega)) ?_; rintro r0 H ⟨rfl, rfl⟩
                          conv => whnf
                          refine ⟨by have := al (k == 3); have := ar (j == 3); simp only [ByteArray.size_append, sb_size]; show _ + 5 + _ ≤ _; omega, ?_⟩
                          conv => whnf
                          refine ⟨congrArg (fun z => ARes.ret (AV.s z)) ?_, rfl⟩
                          show sb (around tl (k == 3)) ++ sb wAndS ++ sb (around tr (j == 3)) = _
                          simp only [sb_append, List.append_assoc]
                        · conv => whnf
                          repeat (first | (refine acond_f (b2) ?_; conv => whnf))
                          conv => whnf
                          refine (And.intro ?_ (And.intro ?_ trivial))
                          · conv => whnf
                            refine ⟨by have := al (k == 3); simp only [sb_size]; show _ + 5 ≤ _; omega, ?_⟩
                            conv => whnf
                            refine ACall.mono (aroundR_spec tr (j == 3) (by omega)) ?_; rintro r0 H ⟨rfl, rfl⟩
                            conv => whnf
                            refine ⟨by have := al (k == 3); have := ar (j == 3); simp only [ByteArray.size_append, sb_size]; show _ + 5 + _ ≤ _; omega, ?_⟩
                            conv => whnf
                            refine ⟨congrArg (fun z => ARes.ret (AV.s z)) ?_, rfl⟩
                            show sb (around tl (k == 3)) ++ sb wAndS ++ sb (around tr (j == 3)) = _
                            simp only [sb_append, List.append_assoc]
                          · conv => whnf
                            refine ACall.mono (aroundR_spec tr (j == 3) (by omega)) ?_; rintro r0 H ⟨rfl, rfl⟩
                            conv => whnf
                            refine ⟨by have := al (k == 3); simp only [sb_size]; show _ + 5 ≤ _; omega, ?_⟩
                            conv => whnf
                            refine ⟨by have := al (k == 3); have := ar (j == 3); simp only [ByteArray.size_append, sb_size]; show _ + 5 + _ ≤ _; omega, ?_⟩
                            conv => whnf
                            refine ⟨congrArg (fun z => ARes.ret (AV.s z)) ?_, rfl⟩
                            show sb (around tl (k == 3)) ++ sb wAndS ++ sb (around tr (j == 3)) = _
                            simp only [sb_append, List.append_assoc]
theorem textROK_of {x : Ex} (h : GT x) (hn : x.okN) (hw : x.wt ≤ 100000000000) : textROK x := by
  induction h with
  | not l hl ih =>
    simp only [Ex.wt] at hw
    exact textR_1 l hl (Nat.le_trans (Ex.txt_le l 0 hn.2.1) (by omega)) (ih hn.2.1 (by omega))
  | and l r hl hr il ir =>
    simp only [Ex.wt] at hw
    exact textR_2 l r hl hr (Nat.le_trans (Ex.txt_le l 0 hn.2.1) (by omega)) (Nat.le_trans (Ex.txt_le r 0 hn.2.2) (by omega)) (il hn.2.1 (by omega)) (ir hn.2.2 (by omega))
  | or l r hl hr il ir =>
    simp only [Ex.wt] at hw
    exact textR_3 l r hl hr (Nat.le_trans (Ex.txt_le l 0 hn.2.1) (by omega)) (Nat.le_trans (Ex.txt_le r 0 hn.2.2) (by omega)) (il hn.2.1 (by omega)) (ir hn.2.2 (by omega))
  | cmp w o n hw' ho hn' =>
    simp only [Ex.wt] at hw
    exact textR_4 w o n (by omega) (by omega) ⟨hn', hn.1.2⟩
  | flag w hw' =>
    refine ACall.enter tok false Tryd.func22 rfl rfl rfl (AW_sound (ip := false) tok _ _ _ _ ?_)
    conv => whnf
    exact ⟨rfl, rfl⟩
  | tru =>
    refine ACall.enter tok false Tryd.func22 rfl rfl rfl (AW_sound (ip := false) tok _ _ _ _ ?_)
    conv => whnf
    exact ⟨rfl, rfl⟩
  | fls =>
    refine ACall.enter tok false Tryd.func22 rfl rfl rfl (AW_sound (ip := false) tok _ _ _ _ ?_)
    conv => whnf
    exact ⟨rfl, rfl⟩
end Go.AK
namespace Go.AK
open Go Go.RowKit Go.Proofs
set_option linter.unusedVariables false
set_option maxRecDepth 100000
theorem pp_all {s : Str} (hs : s.length ≤ 100000) : ∀ f : Nat, (∀ g, g ≤ f → Spec s 26 g .or) ∧ (∀ g, g ≤ f → Spec s 40 g .and) ∧
    (∀ g, g ≤ f → Spec s 51 g .not) ∧ (∀ g, g ≤ f → Spec s 60 g .opd)
  | 0 => by
    refine ⟨?_, ?_, ?_, ?_⟩ <;> (intro g hg; cases Nat.le_zero.1 hg; intro o L _ _ h; exact absurd rfl h)
  | f + 1 => by
    obtain ⟨h1, h2, h3, h4⟩ := pp_all hs f
    have k1 := or_step hs h2
    have k2 := and_step hs h3
    have k3 := not_step hs (h3 f (Nat.le_refl _)) (h4 f (Nat.le_refl _))
    have k4 := opd_step hs (h1 f (Nat.le_refl _))
    refine ⟨?_, ?_, ?_, ?_⟩ <;> intro g hg
    · by_cases e : g = f + 1
      · subst e; exact k1
      · exact h1 g (by omega)
    · by_cases e : g = f + 1
      · subst e; exact k2
      · exact h2 g (by omega)
    · by_cases e : g = f + 1
      · subst e; exact k3
      · exact h3 g (by omega)
    · by_cases e : g = f + 1
      · subst e; exact k4
      · exact h4 g (by omega)
/-! There is fuel enough. -/
def Md.need : Md → Nat → Nat
  | .opd, n => 6 * n + 1
  | .not, n => 6 * n + 2
  | .andL _, n => 6 * n + 2
  | .and, n => 6 * n + 3
  | .orL _, n => 6 * n + 3
  | .or, n => 6 * n + 4
/-- No longer row of tokens is left, and each node took one. -/
def Fine (n : Nat) (r : PR) : Prop := r ≠ .out ∧ ∀ x L, r = .ok x L → L.length + x.depth ≤ n
theorem Fine.err {n p : Nat} {e : Int} : Fine n (.err p e) := ⟨nofun, nofun⟩
theorem Fine.ok {n : Nat} {x : Ex} {L : List Tok} (h : L.length + x.depth ≤ n) : Fine n (.ok x L) := ⟨nofun, fun _ _ e => by cases e; exact h⟩
theorem Fine.bind {n n1 : Nat} {r : PR} {k : Ex → List Tok → PR} (h : Fine n1 r) (hk : ∀ x L, L.length + x.depth ≤ n1 → Fine n (k x L)) : Fine n (r.bind k) := by
  cases r with
  | out => exact absurd rfl h.1
  | err p e => exact Fine.err
  | ok x L => exact hk x L (h.2 x L rfl)
theorem Fine.nxt {n : Nat} {g : Bool} {L : List Tok} {k : List Tok → PR} (hk : Fine n (k L.tail)) : Fine n (nxt g L k) := by
  unfold AK.nxt
  split
  · exact Fine.err
  · exact hk
theorem Fine.mono {n m : Nat} {r : PR} (h : Fine n r) (hm : n ≤ m) : Fine m r := ⟨h.1, fun x L e => Nat.le_trans (h.2 x L e) hm⟩
theorem tok_tail {L : List Tok} (h : (hdT L).1 ≠ []) : L.tail.length + 1 = L.length := by
  cases L with
  | nil => exact absurd rfl h
  | cons t L => rfl
def Md.dep : Md → Nat
  | .orL x => x.depth
  | .andL x => x.depth
  | _ => 0
theorem depth_nd (k : Int) (w o : Str) (n : Int) (x y : Ex) : (Ex.nd k w o n x y).depth ≤ 1 + x.depth + y.depth := by
  simp only [Ex.depth]; omega
theorem pp_fine (g : Bool) : ∀ (f : Nat) (m : Md) (o : Nat) (L : List Tok), m.need L.length ≤ f → Fine (L.length + m.dep) (pp g f m o L)
  | 0, m, o, L, h => by cases m <;> simp only [Md.need] at h <;> omega
  | f + 1, .or, o, L, h => by
    simp only [Md.need] at h
    unfold pp
    refine Fine.bind (pp_fine g f .and o L (by simp only [Md.need]; omega)) fun x L' hl => ?_
    simp only [Md.dep] at hl ⊢
    exact (pp_fine g f (.orL x) o L' (by simp only [Md.need]; omega)).mono (by simp only [Md.dep]; omega)
  | f + 1, .orL x, o, L, h => by
    simp only [Md.need] at h
    unfold pp
    split
    · rename_i hw
      have ht := tok_tail (L := L) (by rw [hw]; decide)
      refine Fine.nxt ?_
      refine Fine.bind (pp_fine g f .and o _ (by simp only [Md.need]; omega)) fun y L' hl => ?_
      have := depth_nd 3 [] [] 0 x y
      simp only [Md.dep] at hl ⊢
      exact (pp_fine g f (.orL _) o L' (by simp only [Md.need]; omega)).mono (by simp only [Md.dep]; omega)
    · exact Fine.ok (Nat.le_refl _)
  | f + 1, .and, o, L, h => by
    simp only [Md.need] at h
    unfold pp
    refine Fine.bind (pp_fine g f .not o L (by simp only [Md.need]; omega)) fun x L' hl => ?_
    simp only [Md.dep] at hl ⊢
    exact (pp_fine g f (.andL x) o L' (by simp only [Md.need]; omega)).mono (by simp only [Md.dep]; omega)
  | f + 1, .andL x, o, L, h => by
    simp only [Md.need] at h
    unfold pp
    split
    · rename_i hw
      have ht := tok_tail (L := L) (by rw [hw]; decide)
      refine Fine.nxt ?_
      refine Fine.bind (pp_fine g f .not o _ (by simp only [Md.need]; omega)) fun y L' hl => ?_
      have := depth_nd 2 [] [] 0 x y
      simp only [Md.dep] at hl ⊢
      exact (pp_fine g f (.andL _) o L' (by simp only [Md.need]; omega)).mono (by simp only [Md.dep]; omega)
    · exact Fine.ok (Nat.le_refl _)
  | f + 1, .not, o, L, h => by
    simp only [Md.need] at h
    unfold pp
    split
    · rename_i hw
      have ht := tok_tail (L := L) (by rw [hw]; decide)
      refine Fine.nxt ?_
      refine Fine.bind (pp_fine g f .not o _ (by simp only [Md.need]; omega)) fun y L' hl => Fine.ok ?_
      have := depth_nd 1 [] [] 0 y .nil
      simp only [Md.dep, Ex.depth] at hl this ⊢
      omega
    · exact pp_fine g f .opd o L (by simp only [Md.need]; omega)
  | f + 1, .opd, o, L, h => by
    simp only [Md.need] at h
    unfold pp
    split
    · rename_i hw
      have ht := tok_tail (L := L) (by rw [hw]; decide)
      split
      · exact Fine.err
      refine Fine.nxt ?_
      refine Fine.bind (pp_fine g f .or (o + 1) _ (by simp only [Md.need]; omega)) fun y L' hl => ?_
      simp only [Md.dep] at hl ⊢
      split
      · rename_i hw'
        have ht' := tok_tail (L := L') (by rw [hw']; decide)
        exact Fine.nxt (Fine.ok (by omega))
      · exact Fine.err
    split
    · rename_i hw
      have ht := tok_tail (L := L) (by rcases hw with e | e <;> rw [e] <;> decide)
      exact Fine.nxt (Fine.ok (by simp only [Md.dep, Ex.depth]; omega))
    split
    · rename_i hw
      have ht := tok_tail (L := L) (fun e => by rw [e] at hw; exact absurd hw (by decide))
      exact Fine.nxt (Fine.ok (by simp only [Md.dep, Ex.depth]; omega))
    split
    · rename_i hw
      have ht := tok_tail (L := L) (fun e => by rw [e] at hw; exact absurd hw (by decide))
      refine Fine.nxt ?_
      split
      · refine Fine.nxt ?_
        unfold pnum
        split
        · exact Fine.err
        split
        · exact Fine.err
        exact Fine.nxt (Fine.ok (by simp only [List.length_tail, Md.dep, Ex.depth] at ht ⊢; omega))
      · exact Fine.err
    split
    · exact Fine.err
    · exact Fine.err
theorem lex_len : ∀ (f : Nat) (r : Str) (p : Nat), r.length < f → (lex f r p).length ≤ r.length + 1
  | 0, _, _, h => by omega
  | f + 1, r, p, h => by
    unfold lex
    split
    · simp
    rename_i h0
    have hl : 0 < r.length := List.length_pos_iff.2 h0
    split
    · have := lex_len f r.tail (p + 1) (by rw [List.length_tail]; omega)
      rw [List.length_tail] at this
      omega
    split
    · simp
    · have hd : (r.drop (tokLen r)).length = r.length - tokLen r := List.length_drop
      have := lex_len f (r.drop (tokLen r)) (p + tokLen r) (by omega)
      rw [List.length_cons]; omega
theorem lexS_len (r : Str) (p : Nat) : (lexS r p).length ≤ r.length + 1 := lex_len _ _ _ (Nat.lt_succ_self _)
theorem parse_fine (g : Bool) (s : Str) (o : Nat) (L : List Tok) (h : L.length ≤ s.length + 1) : Fine (s.length + 1) (pp g (8 * s.length + 64) .or o L) :=
  (pp_fine g _ .or o L (by simp only [Md.need]; omega)).mono (by simp only [Md.dep]; omega)
end Go.AK
namespace Go.AK
open Go Go.RowKit Go.Proofs
set_option linter.unusedVariables false
set_option maxRecDepth 100000
abbrev capsP : List AV := [.p (some (0, 0)), .p (some (1, 0)), .p (some (2, 0))]
theorem catch_none (H : Heap) : ADefer Tryd.prog 24 capsP none H fun H' => H' = H := by
  refine ADefer.enter tok Tryd.func24 rfl rfl rfl rfl rfl ?_
  conv => whnf
theorem catch_some (a b c : AV) (cs : List AV) (p : Nat) (e : Int) : ADefer Tryd.prog 24 capsP (some (wrAV p e)) [.c [a], .c [b], .c [c], .c cs]
    fun H' => ∃ Y Z, H' = [.c [.p none], .c [.i .i64 p], .c [.i .i64 e], Z, Y] := by
  refine ADefer.enter tok Tryd.func24 rfl rfl rfl rfl rfl ?_
  conv => whnf
  refine ⟨Nat.le_of_ble_eq_true rfl, ?_⟩
  conv => whnf
  refine ADraw.gh (Gh.regs [4, 0, 1, 2] (Gh.frz 4 rfl (Gh.of ?_)))
  refine ADraw.ofS tok mixed false [1, 3] [0, 1, 2, 3] [4, 5, 6] (by kernel_rfl) (fun _ _ _ _ h => h) ?_
  conv => whnf
  refine ⟨Nat.le_of_ble_eq_true rfl, ?_⟩
  conv => whnf
  refine ⟨Nat.le_of_ble_eq_true rfl, ?_⟩
  conv => whnf
  refine ⟨Nat.le_of_ble_eq_true rfl, ?_⟩
  conv => whnf
  exact ⟨_, _, rfl⟩
theorem ADefer.mono {P : Program} {f : Nat} {caps : List AV} {pv : Option AV} {H : Heap} {K K' : Heap → Prop} (h : ADefer P f caps pv H K) (hk : ∀ H, K H → K' H) : ADefer P f caps pv H K' :=
  ⟨h.there, fun E w vs u hR hv hu => (h.run E w vs u hR hv hu).mono fun e u' w' ⟨k1, k2, E', H', k3, k4, k5⟩ => ⟨k1, k2, E', H', k3, k4, hk _ k5⟩⟩
theorem parse_spec (s : Str) (hs : s.length ≤ 10000) : ACall Tryd.prog 10 [.s (sb s)] [] fun R H => R = .ret (.tup [(parseE s).1.av, .i .i64 (parseE s).2.1, .i .i64 (parseE s).2.2]) ∧ H = [] := by
  refine ACall.gh ?_
  refine ACall.enterD tok Tryd.func10 rfl rfl rfl rfl ?_
  generalize hr : parseE s = r
  conv => whnf
  by_cases hl : ((sb s).size : Int) > 8192
  · repeat (first | (refine acond_t (decide_eq_true hl) ?_; conv => whnf))
    refine ⟨Nat.le_of_ble_eq_true rfl, ?_⟩
    conv => whnf
    refine ⟨Nat.le_of_ble_eq_true rfl, ?_⟩
    conv => whnf
    refine ⟨Nat.le_of_ble_eq_true rfl, ?_⟩
    conv => whnf
    rw [sb_size] at hl
    have : r = (.nil, 0, 12) := by rw [← hr, parseE, if_pos (by omega)]
    subst this
    exact GhR.sel [] rfl (GhR.of ⟨rfl, rfl⟩)
  · repeat (first | (refine acond_f (decide_eq_false hl) ?_; conv => whnf))
    rw [sb_size] at hl
    rw [parseE, if_neg (by omega)] at hr
    intro ds
    conv => whnf
    have hl2 := lexS_len s 0
    refine ACall.frameH [3] [] rfl (args' := [pAV]) (Hc := [.c (pcl s ((0 : Nat) : Int) [] ((0 : Nat) : Int))]) rfl rfl (next_spec s [] 0 ((0 : Nat) : Int) (by simp) (by omega)) ?_
    rintro R H (⟨k1, rfl, cs, rfl⟩ | ⟨k1, rfl, rfl, hS⟩)
    · refine ⟨.inl rfl, _, rfl, ?_⟩
      conv => whnf
      have : r = (.nil, (hdT (lexS s 0)).2, 11) := by rw [← hr, nxt_bad (L := ([], 0) :: lexS s 0) k1]; rfl
      subst this
      refine ADefer.mono (catch_some (.p none) (.i .i64 0) (.i .i64 0) _ _ _) ?_
      rintro H' ⟨Y, Z, rfl⟩
      conv => whnf
      exact GhR.sel [] rfl (GhR.of ⟨rfl, rfl⟩)
    replace hS : St s (lexS s 0) := hS
    rw [nxt_ok (L := ([], 0) :: lexS s 0) k1, List.tail_cons] at hr
    refine ⟨.inl rfl, [.c [.p none], .c [.i .i64 0], .c [.i .i64 0], .c (pcl s (hdT (lexS s 0)).2 (hdT (lexS s 0)).1 ((0 : Nat) : Int))], rfl, ?_⟩
    conv => whnf
    have hf := parse_fine true s 0 (lexS s 0) hl2
    have hor : ACall Tryd.prog 26 [.p (some (3, 0))] [.c [.p none], .c [.i .i64 0], .c [.i .i64 0], .c (pcl s (hdT (lexS s 0)).2 (hdT (lexS s 0)).1 ((0 : Nat) : Int))]
        fun R H => (∃ p e cs, pp true (8 * s.length + 64) .or 0 (lexS s 0) = .err p e ∧ R = .pan (wrAV p e) ∧ H = [.c [.p none], .c [.i .i64 0], .c [.i .i64 0], .c cs]) ∨
          (∃ x L', pp true (8 * s.length + 64) .or 0 (lexS s 0) = .ok x L' ∧ R = .ret x.av ∧ H = [.c [.p none], .c [.i .i64 0], .c [.i .i64 0], .c (pcl s (hdT L').2 (hdT L').1 ((0 : Nat) : Int))] ∧ St s L') := by
      refine ACall.frameH [3] [] rfl (args' := [pAV]) (Hc := [.c (pcl s (hdT (lexS s 0)).2 (hdT (lexS s 0)).1 ((0 : Nat) : Int))]) rfl rfl (((pp_all (by omega) _).1 _ (Nat.le_refl _)) 0 (lexS s 0) (by omega) hS hf.1) ?_
      intro R H hP
      rcases hP.cases with ⟨p, e, hq, rfl, cs, rfl⟩ | ⟨x, L', hq, rfl, rfl, hS'⟩
      · exact ⟨.inl rfl, _, rfl, .inl ⟨p, e, _, hq, rfl, rfl⟩⟩
      · exact ⟨.inl rfl, _, rfl, .inr ⟨x, L', hq, congrArg ARes.ret (sub_av _ x), rfl, hS'⟩⟩
    refine ACall.mono hor ?_
    rintro R H (⟨p, e, cs, hq, rfl, rfl⟩ | ⟨x, L', hq, rfl, rfl, hS'⟩)
    · conv => whnf
      have : r = (.nil, p, e) := by rw [← hr, hq]; rfl
      subst this
      refine ADefer.mono (catch_some (.p none) (.i .i64 0) (.i .i64 0) _ _ _) ?_
      rintro H' ⟨Y, Z, rfl⟩
      conv => whnf
      exact GhR.sel [] rfl (GhR.of ⟨rfl, rfl⟩)
    have hdx := hf.2 x L' hq
    replace hr : (if (hdT L').1 ≠ [] then (Ex.nil, (hdT L').2, (11 : Int)) else if 64 < x.depth then (.nil, 0, 12) else (x, 0, 0)) = r := by rw [← hr, hq]; rfl
    cases x with
    | nil =>
      conv => whnf
      refine ⟨Nat.le_of_ble_eq_true rfl, ?_⟩
      conv => whnf
      by_cases ht : (hdT L').1 = []
      · have b1 : (!((hdT L').1 == ([] : Str))) = false := by rw [ht]; rfl
        rw [if_neg (fun h => h ht)] at hr
        repeat (first | (refine acond_f (b1) ?_; conv => whnf))
        refine ACall.frameH [] [] rfl (args' := [Ex.av (.nil)]) (Hc := []) rfl rfl (depth_spec (.nil) (by omega)) ?_
        rintro r0 H0 ⟨rfl, rfl⟩
        refine ⟨.inl rfl, _, rfl, ?_⟩
        conv => whnf
        by_cases hd : ((Ex.depth (.nil) : Nat) : Int) > 64
        · exact absurd hd (by decide)
        · repeat (first | (refine acond_f (decide_eq_false hd) ?_; conv => whnf))
          refine ⟨Nat.le_of_ble_eq_true rfl, ?_⟩
          conv => whnf
          refine ⟨Nat.le_of_ble_eq_true rfl, ?_⟩
          conv => whnf
          refine ⟨Nat.le_of_ble_eq_true rfl, ?_⟩
          conv => whnf
          refine ADefer.mono (catch_none _) ?_
          rintro H' rfl
          conv => whnf
          rw [if_neg (by omega)] at hr
          subst hr
          refine GhR.sel [] rfl (GhR.of ⟨?_, rfl⟩)
          show ARes.ret (.tup [sub _ (Ex.av _), .i .i64 0, .i .i64 0]) = _
          rw [sub_av]; rfl
      · have b1 : (!((hdT L').1 == ([] : Str))) = true := by simpa using ht
        rw [if_pos ht] at hr
        subst hr
        repeat (first | (refine acond_t (b1) ?_; conv => whnf))
        refine ACall.frameH [3] [] rfl (args' := [pAV, .i .i64 11]) (Hc := [.c (pcl s (hdT L').2 (hdT L').1 ((0 : Nat) : Int))]) rfl rfl (stop_spec s (hdT L').1 (hdT L').2 ((0 : Nat) : Int) 11) ?_
        rintro r0 H0 ⟨rfl, rfl⟩
        refine ⟨.inl rfl, _, rfl, ?_⟩
        conv => whnf
        refine ADefer.mono (catch_some (.p none) (.i .i64 0) (.i .i64 0) _ (hdT L').2 11) ?_
        rintro H' ⟨Y, Z, rfl⟩
        conv => whnf
        exact GhR.sel [] rfl (GhR.of ⟨rfl, rfl⟩)
      
    | nd k w o n xl xr =>
      conv => whnf
      refine ⟨Nat.le_of_ble_eq_true rfl, ?_⟩
      conv => whnf
      by_cases ht : (hdT L').1 = []
      · have b1 : (!((hdT L').1 == ([] : Str))) = false := by rw [ht]; rfl
        rw [if_neg (fun h => h ht)] at hr
        repeat (first | (refine acond_f (b1) ?_; conv => whnf))
        refine ACall.frameH [] [] rfl (args' := [Ex.av (.nd k w o n xl xr)]) (Hc := []) (by show [sub _ (Ex.av (.nd k w o n xl xr))] = _; rw [sub_av]) rfl (depth_spec (.nd k w o n xl xr) (by omega)) ?_
        rintro r0 H0 ⟨rfl, rfl⟩
        refine ⟨.inl rfl, _, rfl, ?_⟩
        conv => whnf
        by_cases hd : ((Ex.depth (.nd k w o n xl xr) : Nat) : Int) > 64
        · repeat (first | (refine acond_t (decide_eq_true hd) ?_; conv => whnf))
          refine ⟨Nat.le_of_ble_eq_true rfl, ?_⟩
          conv => whnf
          refine ⟨Nat.le_of_ble_eq_true rfl, ?_⟩
          conv => whnf
          refine ⟨Nat.le_of_ble_eq_true rfl, ?_⟩
          conv => whnf
          refine ADefer.mono (catch_none _) ?_
          rintro H' rfl
          conv => whnf
          rw [if_pos (by omega)] at hr
          subst hr
          exact GhR.sel [] rfl (GhR.of ⟨rfl, rfl⟩)
        · repeat (first | (refine acond_f (decide_eq_false hd) ?_; conv => whnf))
          refine ⟨Nat.le_of_ble_eq_true rfl, ?_⟩
          conv => whnf
          refine ⟨Nat.le_of_ble_eq_true rfl, ?_⟩
          conv => whnf
          refine ⟨Nat.le_of_ble_eq_true rfl, ?_⟩
          conv => whnf
          refine ADefer.mono (catch_none _) ?_
          rintro H' rfl
          conv => whnf
          rw [if_neg (by omega)] at hr
          subst hr
          refine GhR.sel [] rfl (GhR.of ⟨?_, rfl⟩)
          show ARes.ret (.tup [sub _ (Ex.av _), .i .i64 0, .i .i64 0]) = _
          rw [sub_av]; rfl
      · have b1 : (!((hdT L').1 == ([] : Str))) = true := by simpa using ht
        rw [if_pos ht] at hr
        subst hr
        repeat (first | (refine acond_t (b1) ?_; conv => whnf))
        refine ACall.frameH [3] [] rfl (args' := [pAV, .i .i64 11]) (Hc := [.c (pcl s (hdT L').2 (hdT L').1 ((0 : Nat) : Int))]) rfl rfl (stop_spec s (hdT L').1 (hdT L').2 ((0 : Nat) : Int) 11) ?_
        rintro r0 H0 ⟨rfl, rfl⟩
        refine ⟨.inl rfl, _, rfl, ?_⟩
        conv => whnf
        refine ADefer.mono (catch_some _ (.i .i64 0) (.i .i64 0) _ (hdT L').2 11) ?_
        rintro H' ⟨Y, Z, rfl⟩
        conv => whnf
        exact GhR.sel [] rfl (GhR.of ⟨rfl, rfl⟩)
      
end Go.AK
namespace Go.AK
open Go Go.RowKit Go.Proofs
set_option linter.unusedVariables false
set_option maxRecDepth 100000
def awA : Str := [105, 100, 61, 61, 53, 32, 97, 110, 100, 32, 110, 111, 116, 40, 101, 120, 116, 32, 111, 114, 32, 108, 101, 110, 60, 50, 41]
def awB : Str := [97, 32, 97, 110, 100, 32, 98]
def awC : Str := [101, 120, 116, 32, 101, 120, 116]
def awD : Str := [105, 100, 32, 61, 61, 32]
def awT : Str := [105, 100, 32, 61, 61, 32, 53, 32, 97, 110, 100, 32, 110, 111, 116, 32, 40, 101, 120, 116, 32, 111, 114, 32, 108, 101, 110, 32, 60, 32, 50, 41]
def awX : Ex := .nd 2 [] [] 0 (.nd 4 [105, 100] [61, 61] 5 .nil .nil) (.nd 1 [] [] 0 (.nd 3 [] [] 0 (.nd 5 [101, 120, 116] [] 0 .nil .nil) (.nd 4 [108, 101, 110] [60] 2 .nil .nil)) .nil)
theorem awA_eq : parseE awA = (awX, 0, 0) := by kernel_rfl
theorem awB_eq : parseE awB = (.nil, 0, 21) := by kernel_rfl
theorem awC_eq : parseE awC = (.nil, 4, 11) := by kernel_rfl
theorem awD_eq : parseE awD = (.nil, 6, 11) := by kernel_rfl
theorem awX_text : awX.textE = awT ∧ awX.checkE = 0 := ⟨by kernel_rfl, by kernel_rfl⟩
theorem awake_spec : ACall Tryd.prog 9 [] [] fun R H => R = .ret (.b true) ∧ H = [] := by
  have pA := parse_spec awA (by decide)
  have pB := parse_spec awB (by decide)
  have pC := parse_spec awC (by decide)
  have pD := parse_spec awD (by decide)
  have pT := Text_spec awX (by decide) (by simp only [Ex.okN, awX]; decide) (by decide)
  rw [awA_eq] at pA
  rw [awB_eq] at pB
  rw [awC_eq] at pC
  rw [awD_eq] at pD
  rw [awX_text.1, awX_text.2] at pT
  refine ACall.enter tok false Tryd.func9 rfl rfl rfl (AW_sound (ip := false) tok _ _ _ _ ?_)
  conv => whnf
  refine ACall.mono pA ?_; rintro r0 H ⟨rfl, rfl⟩
  conv => whnf
  refine ACall.mono pT ?_; rintro r0 H ⟨rfl, rfl⟩
  conv => whnf
  refine ACall.mono pB ?_; rintro r0 H ⟨rfl, rfl⟩
  conv => whnf
  refine ACall.mono pC ?_; rintro r0 H ⟨rfl, rfl⟩
  conv => whnf
  refine ACall.mono pD ?_; rintro r0 H ⟨rfl, rfl⟩
  conv => whnf
  exact ⟨rfl, rfl⟩
end Go.AK
namespace Go.AK
open Go Go.RowKit Go.Proofs
set_option linter.unusedVariables false
set_option maxRecDepth 100000
theorem equal_spec (x : Ex) : ∀ y : Ex, ACall Tryd.prog 21 [x.av, y.av] [] fun r H => r = .ret (.b (x.same y)) ∧ H = [] := by
  induction x with
  | nil =>
    intro y
    cases y with
    | nil =>
      refine ACall.enter tok false Tryd.func21 rfl rfl rfl (AW_sound (ip := false) tok _ _ _ _ ?_)
      conv => whnf
      exact ⟨rfl, rfl⟩
    | nd k w o n l r =>
      refine ACall.enter tok false Tryd.func21 rfl rfl rfl (AW_sound (ip := false) tok _ _ _ _ ?_)
      conv => whnf
      exact ⟨rfl, rfl⟩
  | nd k w o n l r ihl ihr =>
    intro y
    cases y with
    | nil =>
      refine ACall.enter tok false Tryd.func21 rfl rfl rfl (AW_sound (ip := false) tok _ _ _ _ ?_)
      conv => whnf
      exact ⟨rfl, rfl⟩
    | nd k' w' o' n' l' r' =>
      refine ACall.enter tok false Tryd.func21 rfl rfl rfl (AW_sound (ip := false) tok _ _ _ _ ?_)
      conv => whnf
      refine ADraw.ph tok mixed false [([0, 1, 2, 3, 4, 5, 6, 7, 8, 9, 10, 11, 12, 13, 14, 15, 16, 17, 18, 19, 20, 21, 22, 23, 24, 25, 26, 27, 28, 29, 30, 31, 32, 33, 34, 35, 36, 37, 38, 39, 40, 41, 42, 43, 44, 45, 46, 47, 48, 49, 50], 51), ([52, 53, 54, 55, 56, 57, 58, 59, 60, 61], 62)] [63, 64] (by kernel_rfl) (fun _ _ _ _ h => h) ?_
      conv => whnf
      generalize hk : (k == k') = bhk
      cases bhk with
      | false =>
        conv => whnf
        exact ⟨congrArg (fun b => ARes.ret (AV.b b)) (by rw [Ex.same, hk]; rfl), rfl⟩
      | true =>
        conv => whnf
        generalize hw : ((sb w).data.toList == (sb w').data.toList) = bhw
        cases bhw with
        | false =>
          conv => whnf
          exact ⟨congrArg (fun b => ARes.ret (AV.b b)) (by rw [Ex.same, hk, show (w == w') = false from hw]; rfl), rfl⟩
        | true =>
          conv => whnf
          generalize ho : ((sb o).data.toList == (sb o').data.toList) = bho
          cases bho with
          | false =>
            conv => whnf
            exact ⟨congrArg (fun b => ARes.ret (AV.b b)) (by rw [Ex.same, hk, show (w == w') = true from hw, show (o == o') = false from ho]; rfl), rfl⟩
          | true =>
            conv => whnf
            generalize hn : (n == n') = bhn
            cases bhn with
            | false =>
              conv => whnf
              exact ⟨congrArg (fun b => ARes.ret (AV.b b)) (by rw [Ex.same, hk, show (w == w') = true from hw, show (o == o') = true from ho, hn]; rfl), rfl⟩
            | true =>
              conv => whnf
              refine ACall.mono (ihl l') ?_; rintro r0 H ⟨rfl, rfl⟩
              conv => whnf
              generalize hl : (l.same l') = bhl
              cases bhl with
              | false =>
                conv => whnf
                exact ⟨congrArg (fun b => ARes.ret (AV.b b)) (by rw [Ex.same, hk, show (w == w') = true from hw, show (o == o') = true from ho, hn, hl]; rfl), rfl⟩
              | true =>
                conv => whnf
                refine ACall.mono (ihr r') ?_; rintro r0 H ⟨rfl, rfl⟩
                conv => whnf
                exact ⟨congrArg (fun b => ARes.ret (AV.b b)) (by rw [Ex.same, hk, show (w == w') = true from hw, show (o == o') = true from ho, hn, hl]; rfl), rfl⟩
theorem sameR_spec (x : Ex) : ∀ y : Ex, ACall Tryd.prog 12 [x.av, y.av] [] fun r H => r = .ret (.b (x.same y)) ∧ H = [] := by
  induction x with
  | nil =>
    intro y
    cases y with
    | nil =>
      refine ACall.enter tok false Tryd.func12 rfl rfl rfl (AW_sound (ip := false) tok _ _ _ _ ?_)
      conv => whnf
      exact ⟨rfl, rfl⟩
    | nd k w o n l r =>
      refine ACall.enter tok false Tryd.func12 rfl rfl rfl (AW_sound (ip := false) tok _ _ _ _ ?_)
      conv => whnf
      exact ⟨rfl, rfl⟩
  | nd k w o n l r ihl ihr =>
    intro y
    cases y with
    | nil =>
      refine ACall.enter tok false Tryd.func12 rfl rfl rfl (AW_sound (ip := false) tok _ _ _ _ ?_)
      conv => whnf
      exact ⟨rfl, rfl⟩
    | nd k' w' o' n' l' r' =>
      refine ACall.enter tok false Tryd.func12 rfl rfl rfl (AW_sound (ip := false) tok _ _ _ _ ?_)
      conv => whnf
      refine ADraw.ph tok mixed false [([0, 1, 2, 3, 4, 5, 6, 7, 8, 9, 10, 11, 12, 13, 14, 15, 16, 17, 18, 19, 20, 21, 22, 23, 24, 25, 26, 27, 28, 29, 30, 31, 32, 33, 34, 35, 36, 37, 38, 39, 40, 41, 42, 43, 44, 45, 46, 47, 48, 49, 50], 51), ([52, 53, 54, 55, 56, 57, 58, 59, 60, 61], 62)] [63, 64] (by kernel_rfl) (fun _ _ _ _ h => h) ?_
      conv => whnf
      generalize hk : (k == k') = bhk
      cases bhk with
      | false =>
        conv => whnf
        exact ⟨congrArg (fun b => ARes.ret (AV.b b)) (by rw [Ex.same, hk]; rfl), rfl⟩
      | true =>
        conv => whnf
        generalize hw : ((sb w).data.toList == (sb w').data.toList) = bhw
        cases bhw with
        | false =>
          conv => whnf
          exact ⟨congrArg (fun b => ARes.ret (AV.b b)) (by rw [Ex.same, hk, show (w == w') = false from hw]; rfl), rfl⟩
        | true =>
          conv => whnf
          generalize ho : ((sb o).data.toList == (sb o').data.toList) = bho
          cases bho with
          | false =>
            conv => whnf
            exact ⟨congrArg (fun b => ARes.ret (AV.b b)) (by rw [Ex.same, hk, show (w == w') = true from hw, show (o == o') = false from ho]; rfl), rfl⟩
          | true =>
            conv => whnf
            generalize hn : (n == n') = bhn
            cases bhn with
            | false =>
              conv => whnf
              exact ⟨congrArg (fun b => ARes.ret (AV.b b)) (by rw [Ex.same, hk, show (w == w') = true from hw, show (o == o') = true from ho, hn]; rfl), rfl⟩
            | true =>
              conv => whnf
              refine ACall.mono (ihl l') ?_; rintro r0 H ⟨rfl, rfl⟩
              conv => whnf
              generalize hl : (l.same l') = bhl
              cases bhl with
              | false =>
                conv => whnf
                exact ⟨congrArg (fun b => ARes.ret (AV.b b)) (by rw [Ex.same, hk, show (w == w') = true from hw, show (o == o') = true from ho, hn, hl]; rfl), rfl⟩
              | true =>
                conv => whnf
                refine ACall.mono (ihr r') ?_; rintro r0 H ⟨rfl, rfl⟩
                conv => whnf
                exact ⟨congrArg (fun b => ARes.ret (AV.b b)) (by rw [Ex.same, hk, show (w == w') = true from hw, show (o == o') = true from ho, hn, hl]; rfl), rfl⟩
end Go.AK
namespace Go.AK
open Go Go.RowKit Go.Proofs
set_option linter.unusedVariables false
set_option maxRecDepth 100000
theorem same_refl (x : Ex) : x.same x = true := Ex.same_iff.2 rfl
theorem exprChecks_spec (l m : List Nod) (hl : l.length ≤ 9223372036854775807) (hm : m.length ≤ 9223372036854775807) (okl : ∀ a ∈ l, a.ok) (okm : ∀ a ∈ m, a.ok) :
    ACall Tryd.prog 4 [.rs (nods l) 0 6 l.length, .rs (nods m) 0 6 m.length] [] fun R H => R = .ret (.b true) ∧ H = [] := by
  have aw := awake_spec
  have fl := few_spec l hl
  have fm := few_spec m hm
  refine ACall.enter tok false Tryd.func4 rfl rfl rfl (AW_sound (ip := false) tok _ _ _ _ ?_)
  cases hfl : fewB l with
  | false =>
    rw [hfl] at fl
    conv => whnf
    refine ACall.mono fl ?_; rintro r0 H ⟨rfl, rfl⟩
    conv => whnf
    refine ACall.mono aw ?_; rintro r0 H ⟨rfl, rfl⟩
    conv => whnf
    exact ⟨rfl, rfl⟩
  | true =>
    rw [hfl] at fl
    cases hfm : fewB m with
    | false =>
      rw [hfm] at fm
      conv => whnf
      refine ACall.mono fl ?_; rintro r0 H ⟨rfl, rfl⟩
      conv => whnf
      refine ACall.mono fm ?_; rintro r0 H ⟨rfl, rfl⟩
      conv => whnf
      refine ACall.mono aw ?_; rintro r0 H ⟨rfl, rfl⟩
      conv => whnf
      exact ⟨rfl, rfl⟩
    | true =>
      rw [hfm] at fm
      have tl := tree_mk_spec l (by have := (fewB_of hfl).1; omega)
      have tm := tree_mk_spec m (by have := (fewB_of hfm).1; omega)
      have ox := treeOf_ok hfl okl
      have oy := treeOf_ok hfm okm
      generalize treeOf l = x at tl ox
      generalize treeOf m = y at tm oy
      have hd1 := depth_spec x (by have := ox.dep; omega)
      have hd2 := depthR_spec x (by have := ox.dep; omega)
      have hc1 := check_spec x (by have := ox.dep; omega)
      have hc2 := checkR_spec x (by have := ox.dep; omega)
      have ht := Text_spec x (by have := ox.dep; omega) ox.num (by have := ox.wt; omega)
      have hpx := plain_spec x
      have hpy := plain_spec y
      have he := equal_spec x y
      have hs := sameR_spec x y
      have hxx := equal_spec x x
      rw [same_refl] at hxx
      have hte : x.checkE = 0 → textROK x ∧ x.textE = x.txt 0 := fun h => by
        obtain ⟨h1, h2, h3⟩ := check_ok h
        exact ⟨textROK_of (GT_of x h3 h1) ox.num (by have := ox.wt; omega), by unfold Ex.textE; rw [if_pos h]⟩
      have hte2 : x.checkE ≠ 0 → x.textE = [] := fun h => by unfold Ex.textE; rw [if_neg h]
      generalize x.textE = t at ht hte hte2
      generalize x.checkE = e at hc1 hc2 ht hte hte2
      generalize x.same y = sm at he hs
      generalize x.depth = dp at hd1 hd2
      have b1 : (e != e) = false := by simp
      have b2 : (((dp : Nat) : Int) != (dp : Int)) = false := by simp
      have b3 : (!(sm == sm)) = false := by cases sm <;> rfl
      have b4 : (e == e) = true := by simp
      by_cases h0 : e = 0
      · obtain ⟨htr, rfl⟩ := hte h0
        unfold textROK at htr
        generalize x.txt 0 = tx at ht htr
        have b6 : (tx == tx) = true := by simp
        have b5 : (e != 0) = false := by rw [h0]; rfl
        have b7 : (e == 0) = true := by rw [h0]; rfl
        conv => whnf
        refine ACall.mono fl ?_; rintro r0 H ⟨rfl, rfl⟩
        conv => whnf
        repeat (first | (refine acond_f (b1) ?_; conv => whnf) | (refine acond_f (b2) ?_; conv => whnf) | (refine acond_f (b3) ?_; conv => whnf) | (refine acond_f (b5) ?_; conv => whnf) | (refine acond_t (b4) ?_; conv => whnf))
        refine ACall.mono fm ?_; rintro r0 H ⟨rfl, rfl⟩
        conv => whnf
        repeat (first | (refine acond_f (b1) ?_; conv => whnf) | (refine acond_f (b2) ?_; conv => whnf) | (refine acond_f (b3) ?_; conv => whnf) | (refine acond_f (b5) ?_; conv => whnf) | (refine acond_t (b4) ?_; conv => whnf))
        refine ACall.mono tl ?_; rintro r0 H ⟨rfl, rfl⟩
        conv => whnf
        repeat (first | (refine acond_f (b1) ?_; conv => whnf) | (refine acond_f (b2) ?_; conv => whnf) | (refine acond_f (b3) ?_; conv => whnf) | (refine acond_f (b5) ?_; conv => whnf) | (refine acond_t (b4) ?_; conv => whnf))
        refine ACall.mono tm ?_; rintro r0 H ⟨rfl, rfl⟩
        conv => whnf
        repeat (first | (refine acond_f (b1) ?_; conv => whnf) | (refine acond_f (b2) ?_; conv => whnf) | (refine acond_f (b3) ?_; conv => whnf) | (refine acond_f (b5) ?_; conv => whnf) | (refine acond_t (b4) ?_; conv => whnf))
        refine ACall.mono hpx ?_; rintro r0 H ⟨rfl, rfl⟩
        conv => whnf
        repeat (first | (refine acond_f (b1) ?_; conv => whnf) | (refine acond_f (b2) ?_; conv => whnf) | (refine acond_f (b3) ?_; conv => whnf) | (refine acond_f (b5) ?_; conv => whnf) | (refine acond_t (b4) ?_; conv => whnf))
        refine ACall.mono hc2 ?_; rintro r0 H ⟨rfl, rfl⟩
        conv => whnf
        repeat (first | (refine acond_f (b1) ?_; conv => whnf) | (refine acond_f (b2) ?_; conv => whnf) | (refine acond_f (b3) ?_; conv => whnf) | (refine acond_f (b5) ?_; conv => whnf) | (refine acond_t (b4) ?_; conv => whnf))
        refine ACall.mono ht ?_; rintro r0 H ⟨rfl, rfl⟩
        conv => whnf
        repeat (first | (refine acond_f (b1) ?_; conv => whnf) | (refine acond_f (b2) ?_; conv => whnf) | (refine acond_f (b3) ?_; conv => whnf) | (refine acond_f (b5) ?_; conv => whnf) | (refine acond_t (b4) ?_; conv => whnf))
        refine ACall.mono hc1 ?_; rintro r0 H ⟨rfl, rfl⟩
        conv => whnf
        repeat (first | (refine acond_f (b1) ?_; conv => whnf) | (refine acond_f (b2) ?_; conv => whnf) | (refine acond_f (b3) ?_; conv => whnf) | (refine acond_f (b5) ?_; conv => whnf) | (refine acond_t (b4) ?_; conv => whnf))
        refine ACall.mono hd1 ?_; rintro r0 H ⟨rfl, rfl⟩
        conv => whnf
        repeat (first | (refine acond_f (b1) ?_; conv => whnf) | (refine acond_f (b2) ?_; conv => whnf) | (refine acond_f (b3) ?_; conv => whnf) | (refine acond_f (b5) ?_; conv => whnf) | (refine acond_t (b4) ?_; conv => whnf))
        refine ACall.mono hpx ?_; rintro r0 H ⟨rfl, rfl⟩
        conv => whnf
        repeat (first | (refine acond_f (b1) ?_; conv => whnf) | (refine acond_f (b2) ?_; conv => whnf) | (refine acond_f (b3) ?_; conv => whnf) | (refine acond_f (b5) ?_; conv => whnf) | (refine acond_t (b4) ?_; conv => whnf))
        refine ACall.mono hd2 ?_; rintro r0 H ⟨rfl, rfl⟩
        conv => whnf
        repeat (first | (refine acond_f (b1) ?_; conv => whnf) | (refine acond_f (b2) ?_; conv => whnf) | (refine acond_f (b3) ?_; conv => whnf) | (refine acond_f (b5) ?_; conv => whnf) | (refine acond_t (b4) ?_; conv => whnf))
        refine ACall.mono he ?_; rintro r0 H ⟨rfl, rfl⟩
        conv => whnf
        repeat (first | (refine acond_f (b1) ?_; conv => whnf) | (refine acond_f (b2) ?_; conv => whnf) | (refine acond_f (b3) ?_; conv => whnf) | (refine acond_f (b5) ?_; conv => whnf) | (refine acond_t (b4) ?_; conv => whnf))
        refine ACall.mono hpx ?_; rintro r0 H ⟨rfl, rfl⟩
        conv => whnf
        repeat (first | (refine acond_f (b1) ?_; conv => whnf) | (refine acond_f (b2) ?_; conv => whnf) | (refine acond_f (b3) ?_; conv => whnf) | (refine acond_f (b5) ?_; conv => whnf) | (refine acond_t (b4) ?_; conv => whnf))
        refine ACall.mono hpy ?_; rintro r0 H ⟨rfl, rfl⟩
        conv => whnf
        repeat (first | (refine acond_f (b1) ?_; conv => whnf) | (refine acond_f (b2) ?_; conv => whnf) | (refine acond_f (b3) ?_; conv => whnf) | (refine acond_f (b5) ?_; conv => whnf) | (refine acond_t (b4) ?_; conv => whnf))
        refine ACall.mono hs ?_; rintro r0 H ⟨rfl, rfl⟩
        conv => whnf
        repeat (first | (refine acond_f (b1) ?_; conv => whnf) | (refine acond_f (b2) ?_; conv => whnf) | (refine acond_f (b3) ?_; conv => whnf) | (refine acond_f (b5) ?_; conv => whnf) | (refine acond_t (b4) ?_; conv => whnf))
        refine ACall.mono tl ?_; rintro r0 H ⟨rfl, rfl⟩
        conv => whnf
        repeat (first | (refine acond_f (b1) ?_; conv => whnf) | (refine acond_f (b2) ?_; conv => whnf) | (refine acond_f (b3) ?_; conv => whnf) | (refine acond_f (b5) ?_; conv => whnf) | (refine acond_t (b4) ?_; conv => whnf))
        refine ACall.mono hxx ?_; rintro r0 H ⟨rfl, rfl⟩
        conv => whnf
        repeat (first | (refine acond_f (b1) ?_; conv => whnf) | (refine acond_f (b2) ?_; conv => whnf) | (refine acond_f (b3) ?_; conv => whnf) | (refine acond_f (b5) ?_; conv => whnf) | (refine acond_t (b4) ?_; conv => whnf))
        refine ACall.mono hpx ?_; rintro r0 H ⟨rfl, rfl⟩
        conv => whnf
        refine ACall.mono htr ?_; rintro r0 H ⟨rfl, rfl⟩
        conv => whnf
        repeat (first | (refine acond_t (b6) ?_; conv => whnf) | (refine acond_t (b7) ?_; conv => whnf))
        refine ACall.mono aw ?_; rintro r0 H ⟨rfl, rfl⟩
        conv => whnf
        repeat (first | (refine acond_t (b6) ?_; conv => whnf) | (refine acond_t (b7) ?_; conv => whnf))
        exact ⟨rfl, rfl⟩
      · have h1 := hte2 h0
        subst h1
        have b5 : (e != 0) = true := by simpa using h0
        conv => whnf
        refine ACall.mono fl ?_; rintro r0 H ⟨rfl, rfl⟩
        conv => whnf
        repeat (first | (refine acond_f (b1) ?_; conv => whnf) | (refine acond_f (b2) ?_; conv => whnf) | (refine acond_f (b3) ?_; conv => whnf) | (refine acond_t (b5) ?_; conv => whnf) | (refine acond_t (b4) ?_; conv => whnf))
        refine ACall.mono fm ?_; rintro r0 H ⟨rfl, rfl⟩
        conv => whnf
        repeat (first | (refine acond_f (b1) ?_; conv => whnf) | (refine acond_f (b2) ?_; conv => whnf) | (refine acond_f (b3) ?_; conv => whnf) | (refine acond_t (b5) ?_; conv => whnf) | (refine acond_t (b4) ?_; conv => whnf))
        refine ACall.mono tl ?_; rintro r0 H ⟨rfl, rfl⟩
        conv => whnf
        repeat (first | (refine acond_f (b1) ?_; conv => whnf) | (refine acond_f (b2) ?_; conv => whnf) | (refine acond_f (b3) ?_; conv => whnf) | (refine acond_t (b5) ?_; conv => whnf) | (refine acond_t (b4) ?_; conv => whnf))
        refine ACall.mono tm ?_; rintro r0 H ⟨rfl, rfl⟩
        conv => whnf
        repeat (first | (refine acond_f (b1) ?_; conv => whnf) | (refine acond_f (b2) ?_; conv => whnf) | (refine acond_f (b3) ?_; conv => whnf) | (refine acond_t (b5) ?_; conv => whnf) | (refine acond_t (b4) ?_; conv => whnf))
        refine ACall.mono hpx ?_; rintro r0 H ⟨rfl, rfl⟩
        conv => whnf
        repeat (first | (refine acond_f (b1) ?_; conv => whnf) | (refine acond_f (b2) ?_; conv => whnf) | (refine acond_f (b3) ?_; conv => whnf) | (refine acond_t (b5) ?_; conv => whnf) | (refine acond_t (b4) ?_; conv => whnf))
        refine ACall.mono hc2 ?_; rintro r0 H ⟨rfl, rfl⟩
        conv => whnf
        repeat (first | (refine acond_f (b1) ?_; conv => whnf) | (refine acond_f (b2) ?_; conv => whnf) | (refine acond_f (b3) ?_; conv => whnf) | (refine acond_t (b5) ?_; conv => whnf) | (refine acond_t (b4) ?_; conv => whnf))
        refine ACall.mono ht ?_; rintro r0 H ⟨rfl, rfl⟩
        conv => whnf
        repeat (first | (refine acond_f (b1) ?_; conv => whnf) | (refine acond_f (b2) ?_; conv => whnf) | (refine acond_f (b3) ?_; conv => whnf) | (refine acond_t (b5) ?_; conv => whnf) | (refine acond_t (b4) ?_; conv => whnf))
        refine ACall.mono hc1 ?_; rintro r0 H ⟨rfl, rfl⟩
        conv => whnf
        repeat (first | (refine acond_f (b1) ?_; conv => whnf) | (refine acond_f (b2) ?_; conv => whnf) | (refine acond_f (b3) ?_; conv => whnf) | (refine acond_t (b5) ?_; conv => whnf) | (refine acond_t (b4) ?_; conv => whnf))
        refine ACall.mono hd1 ?_; rintro r0 H ⟨rfl, rfl⟩
        conv => whnf
        repeat (first | (refine acond_f (b1) ?_; conv => whnf) | (refine acond_f (b2) ?_; conv => whnf) | (refine acond_f (b3) ?_; conv => whnf) | (refine acond_t (b5) ?_; conv => whnf) | (refine acond_t (b4) ?_; conv => whnf))
        refine ACall.mono hpx ?_; rintro r0 H ⟨rfl, rfl⟩
        conv => whnf
        repeat (first | (refine acond_f (b1) ?_; conv => whnf) | (refine acond_f (b2) ?_; conv => whnf) | (refine acond_f (b3) ?_; conv => whnf) | (refine acond_t (b5) ?_; conv => whnf) | (refine acond_t (b4) ?_; conv => whnf))
        refine ACall.mono hd2 ?_; rintro r0 H ⟨rfl, rfl⟩
        conv => whnf
        repeat (first | (refine acond_f (b1) ?_; conv => whnf) | (refine acond_f (b2) ?_; conv => whnf) | (refine acond_f (b3) ?_; conv => whnf) | (refine acond_t (b5) ?_; conv => whnf) | (refine acond_t (b4) ?_; conv => whnf))
        refine ACall.mono he ?_; rintro r0 H ⟨rfl, rfl⟩
        conv => whnf
        repeat (first | (refine acond_f (b1) ?_; conv => whnf) | (refine acond_f (b2) ?_; conv => whnf) | (refine acond_f (b3) ?_; conv => whnf) | (refine acond_t (b5) ?_; conv => whnf) | (refine acond_t (b4) ?_; conv => whnf))
        refine ACall.mono hpx ?_; rintro r0 H ⟨rfl, rfl⟩
        conv => whnf
        repeat (first | (refine acond_f (b1) ?_; conv => whnf) | (refine acond_f (b2) ?_; conv => whnf) | (refine acond_f (b3) ?_; conv => whnf) | (refine acond_t (b5) ?_; conv => whnf) | (refine acond_t (b4) ?_; conv => whnf))
        refine ACall.mono hpy ?_; rintro r0 H ⟨rfl, rfl⟩
        conv => whnf
        repeat (first | (refine acond_f (b1) ?_; conv => whnf) | (refine acond_f (b2) ?_; conv => whnf) | (refine acond_f (b3) ?_; conv => whnf) | (refine acond_t (b5) ?_; conv => whnf) | (refine acond_t (b4) ?_; conv => whnf))
        refine ACall.mono hs ?_; rintro r0 H ⟨rfl, rfl⟩
        conv => whnf
        repeat (first | (refine acond_f (b1) ?_; conv => whnf) | (refine acond_f (b2) ?_; conv => whnf) | (refine acond_f (b3) ?_; conv => whnf) | (refine acond_t (b5) ?_; conv => whnf) | (refine acond_t (b4) ?_; conv => whnf))
        refine ACall.mono tl ?_; rintro r0 H ⟨rfl, rfl⟩
        conv => whnf
        repeat (first | (refine acond_f (b1) ?_; conv => whnf) | (refine acond_f (b2) ?_; conv => whnf) | (refine acond_f (b3) ?_; conv => whnf) | (refine acond_t (b5) ?_; conv => whnf) | (refine acond_t (b4) ?_; conv => whnf))
        refine ACall.mono hxx ?_; rintro r0 H ⟨rfl, rfl⟩
        conv => whnf
        repeat (first | (refine acond_f (b1) ?_; conv => whnf) | (refine acond_f (b2) ?_; conv => whnf) | (refine acond_f (b3) ?_; conv => whnf) | (refine acond_t (b5) ?_; conv => whnf) | (refine acond_t (b4) ?_; conv => whnf))
        refine ACall.mono aw ?_; rintro r0 H ⟨rfl, rfl⟩
        conv => whnf
        repeat (first | (refine acond_t (b4) ?_; conv => whnf))
        exact ⟨rfl, rfl⟩
theorem exprChecks_top (l : List Nod) (hl : l.length ≤ maxLen) (okl : ∀ a ∈ l, a.ok) (m : List Nod) (hm : m.length ≤ maxLen) (okm : ∀ a ∈ m, a.ok) :
    ACall Tryd.prog 4 [.rs (nods l) 0 6 l.length, .rs (nods m) 0 6 m.length] [] fun R H => R = .ret (.b true) ∧ H = [] :=
  exprChecks_spec l m (maxLen_lt hl) (maxLen_lt hm) okl okm
end Go.AK
