/- Texts SCRef2, SCRef3, SCRef4, SCRef5, SCDecodes, STop: an evaluator of the model's code, proved sound, and what the program's functions do, for all inputs. -/
import Derived.Test.YtmhkinlckjjpoaaMS4
namespace Go.AK
open Go Go.RowKit Go.Proofs
set_option linter.unusedVariables false
set_option maxRecDepth 100000
def arbW (l : List Int) : Nat := if extL l = true then 32 else 13
def ctrlW (l : List Int) : Nat := if extL l = true then 6 else 5
/-- As many levels as each field has. -/
def WdR (l : List Int) : List Int :=
  if l.length < 14 then [1] else if whole l = true then [1, arbW l, ctrlW l, ((aheadN l - dataAt l : Nat) : Int), 15, 1, 1, 1, 7] else [1, arbW l, ctrlW l]
theorem WdR_len (l : List Int) : (WdR l).length = if l.length < 14 then 1 else if whole l = true then 9 else 3 := by
  unfold WdR
  repeat' split
  all_goals rfl
theorem rt_val {l : List Int} (v : Nat) (hv : v ≤ 8) (hs : v = sizeL l) : ((aheadN l - dataAt l : Nat) : Int) = IntKind.i64.wrap (8 * (if rtrL l = true then (0 : Int) else (v : Int))) := by
  rw [w64 (by split <;> omega) (by split <;> omega)]
  unfold aheadN
  split <;> omega
set_option maxHeartbeats 8000000 in
theorem rwidths_spec (L : List Int) (hl : isLv L) (hL : L.length < 1000000) : ACall Try.prog 44 [.rs (ints L) 0 1 L.length] [] fun r H => r = .ret (.sl (some (0, 0)) 1 (WdR L).length (WdR L).length) ∧ H = [.c (ints (WdR L))] := by
  refine ACall.gh ?_
  refine ACall.enter tok false Try.func44 rfl rfl rfl (AW_sound (ip := false) tok _ _ _ _ ?_)
  conv => whnf
  by_cases c0 : (L.length : Int) < 14
  · have hW : WdR L = [1] := by unfold WdR; rw [if_pos (by omega)]
    refine acond_t (decide_eq_true c0) ?_
    conv => whnf
    rw [hW]
    exact GhR.of ⟨rfl, rfl⟩
  refine acond_f (decide_eq_false c0) ?_
  conv => whnf
  refine ⟨⟨by omega, by omega⟩, ?_⟩
  conv => whnf
  refine aget_num (i := 13) rfl (get_gd (by omega)) ?_
  conv => whnf
  by_cases c1 : L.getD 13 0 = 1
  · have hx : extL L = true := decide_eq_true c1
    have hd : dataAt L = 39 := by unfold dataAt; rw [if_pos hx]
    have ha : arbW L = 32 := by unfold arbW; rw [if_pos hx]
    have hc : ctrlW L = 6 := by unfold ctrlW; rw [if_pos hx]
    have hx1 : (L.getD 13 0 == 1) = true := beq_iff_eq.2 c1
    have hw39 : IntKind.i64.wrap (IntKind.i64.wrap (1 + 32) + 6) = 39 := by decide
    have hw35 : IntKind.i64.wrap (IntKind.i64.wrap (32 + 6) - 3) = 35 := by decide
    have hw39' : IntKind.i64.wrap (IntKind.i64.wrap (32 + 6) + 1) = 39 := by decide
    refine acond_t hx1 ?_
    conv => whnf
    by_cases c2 : (L.length : Int) < 39
    · have hW : WdR L = [1, 32, 6] := by
        unfold WdR
        rw [if_neg (by omega), if_neg (by rw [show whole L = false from decide_eq_false (by omega)]; decide), ha, hc]; rfl
      refine acond_t (decide_eq_true (by rw [hw39]; exact c2)) ?_
      conv => whnf
      rw [hW]
      exact GhR.of ⟨rfl, rfl⟩
    · have hwh : whole L = true := decide_eq_true (by omega)
      have hcl : (cut L 35 39).length = 4 := cut_length L 35 39 (by omega)
      have hv := valI_small (cut_lv hl 35 39) (n := 4) (by omega)
      have h4 : (2 : Int) ^ 4 = 16 := by decide
      have hrt : rtrL L = (L.getD 32 0 == 1) := by unfold rtrL; rw [if_pos hx]; rfl
      have hsz : sizeL L = min (valI (cut L 35 39)).toNat 8 := by unfold sizeL; rw [hd]
      refine acond_f (decide_eq_false (by rw [hw39]; exact c2)) ?_
      conv => whnf
      refine ⟨⟨by rw [hw35]; omega, by rw [hw35, hw39']; omega, by rw [hw39']; omega⟩, ?_⟩
      conv => whnf
      refine ACall.mono (ACall.args (rvalue_spec (cut L 35 39) (by omega) (cut_lv hl _ _)) (VLe.cut (a := 35) (b := 39) (by omega) (by omega) rfl rfl VLe.nil)) ?_
      rintro r H ⟨rfl, rfl⟩
      generalize hV : valI (cut L 35 39) = v at hv hsz
      have hW : ∀ u : Int, u = ((aheadN L - dataAt L : Nat) : Int) → [(1 : Int), 32, 6, u, 15, 1, 1, 1, 7] = WdR L := fun u hu => by
        unfold WdR
        rw [if_neg (by omega), if_pos hwh, ha, hc, hu]; rfl
      have hlen : (WdR L).length = 9 := by rw [WdR_len, if_neg (by omega), if_pos hwh]
      rw [hlen]
      have fin : ∀ u : Int, u = (if rtrL L = true then (0 : Int) else ((sizeL L : Nat) : Int)) → ints [(1 : Int), 32, 6, IntKind.i64.wrap (8 * u), 15, 1, 1, 1, 7] = ints (WdR L) := fun u hu => by
        rw [← hW _ rfl, rt_val _ (sizeL_le L) rfl, hu]
      conv => whnf
      by_cases c3 : v > 8
      · have hs8 : sizeL L = 8 := by omega
        refine acond_t (decide_eq_true c3) ?_
        conv => whnf
        refine ⟨⟨by omega, by omega⟩, ?_⟩
        conv => whnf
        refine aget_num (i := 12) rfl (get_gd (by omega)) ?_
        conv => whnf
        refine ⟨⟨by omega, by omega⟩, ?_⟩
        conv => whnf
        refine aget_num (i := 13) rfl (get_gd (by omega)) ?_
        conv => whnf
        refine acond_t hx1 ?_
        conv => whnf
        refine ⟨⟨by omega, by omega⟩, ?_⟩
        conv => whnf
        refine aget_num (i := 32) rfl (get_gd (by omega)) ?_
        conv => whnf
        cases hr : (L.getD 32 0 == 1)
        · conv => whnf
          refine GhR.of ⟨rfl, ?_⟩
          rw [← fin 8 (by rw [hrt, hr, hs8]; rfl)]; rfl
        · conv => whnf
          refine GhR.of ⟨rfl, ?_⟩
          rw [← fin 0 (by rw [hrt, hr]; rfl)]; rfl
      · have hs8 : ((sizeL L : Nat) : Int) = v := by omega
        refine acond_f (decide_eq_false c3) ?_
        conv => whnf
        refine ⟨⟨by omega, by omega⟩, ?_⟩
        conv => whnf
        refine aget_num (i := 12) rfl (get_gd (by omega)) ?_
        conv => whnf
        refine ⟨⟨by omega, by omega⟩, ?_⟩
        conv => whnf
        refine aget_num (i := 13) rfl (get_gd (by omega)) ?_
        conv => whnf
        refine acond_t hx1 ?_
        conv => whnf
        refine ⟨⟨by omega, by omega⟩, ?_⟩
        conv => whnf
        refine aget_num (i := 32) rfl (get_gd (by omega)) ?_
        conv => whnf
        cases hr : (L.getD 32 0 == 1)
        · conv => whnf
          refine GhR.of ⟨rfl, ?_⟩
          rw [← fin v (by rw [hrt, hr, hs8]; rfl)]; rfl
        · conv => whnf
          refine GhR.of ⟨rfl, ?_⟩
          rw [← fin 0 (by rw [hrt, hr]; rfl)]; rfl
  · have hx : extL L = false := decide_eq_false c1
    have hd : dataAt L = 19 := by unfold dataAt; rw [hx]; rfl
    have ha : arbW L = 13 := by unfold arbW; rw [hx]; rfl
    have hc : ctrlW L = 5 := by unfold ctrlW; rw [hx]; rfl
    have hx1 : (L.getD 13 0 == 1) = false := beq_eq_false_iff_ne.2 c1
    have hw39 : IntKind.i64.wrap (IntKind.i64.wrap (1 + 13) + 5) = 19 := by decide
    have hw35 : IntKind.i64.wrap (IntKind.i64.wrap (13 + 5) - 3) = 15 := by decide
    have hw39' : IntKind.i64.wrap (IntKind.i64.wrap (13 + 5) + 1) = 19 := by decide
    refine acond_f hx1 ?_
    conv => whnf
    by_cases c2 : (L.length : Int) < 19
    · have hW : WdR L = [1, 13, 5] := by
        unfold WdR
        rw [if_neg (by omega), if_neg (by rw [show whole L = false from decide_eq_false (by omega)]; decide), ha, hc]; rfl
      refine acond_t (decide_eq_true (by rw [hw39]; exact c2)) ?_
      conv => whnf
      rw [hW]
      exact GhR.of ⟨rfl, rfl⟩
    · have hwh : whole L = true := decide_eq_true (by omega)
      have hcl : (cut L 15 19).length = 4 := cut_length L 15 19 (by omega)
      have hv := valI_small (cut_lv hl 15 19) (n := 4) (by omega)
      have h4 : (2 : Int) ^ 4 = 16 := by decide
      have hrt : rtrL L = (L.getD 12 0 == 1) := by unfold rtrL; rw [hx]; rfl
      have hsz : sizeL L = min (valI (cut L 15 19)).toNat 8 := by unfold sizeL; rw [hd]
      refine acond_f (decide_eq_false (by rw [hw39]; exact c2)) ?_
      conv => whnf
      refine ⟨⟨by rw [hw35]; omega, by rw [hw35, hw39']; omega, by rw [hw39']; omega⟩, ?_⟩
      conv => whnf
      refine ACall.mono (ACall.args (rvalue_spec (cut L 15 19) (by omega) (cut_lv hl _ _)) (VLe.cut (a := 15) (b := 19) (by omega) (by omega) rfl rfl VLe.nil)) ?_
      rintro r H ⟨rfl, rfl⟩
      generalize hV : valI (cut L 15 19) = v at hv hsz
      have hW : ∀ u : Int, u = ((aheadN L - dataAt L : Nat) : Int) → [(1 : Int), 13, 5, u, 15, 1, 1, 1, 7] = WdR L := fun u hu => by
        unfold WdR
        rw [if_neg (by omega), if_pos hwh, ha, hc, hu]; rfl
      have hlen : (WdR L).length = 9 := by rw [WdR_len, if_neg (by omega), if_pos hwh]
      rw [hlen]
      have fin : ∀ u : Int, u = (if rtrL L = true then (0 : Int) else ((sizeL L : Nat) : Int)) → ints [(1 : Int), 13, 5, IntKind.i64.wrap (8 * u), 15, 1, 1, 1, 7] = ints (WdR L) := fun u hu => by
        rw [← hW _ rfl, rt_val _ (sizeL_le L) rfl, hu]
      conv => whnf
      by_cases c3 : v > 8
      · have hs8 : sizeL L = 8 := by omega
        refine acond_t (decide_eq_true c3) ?_
        conv => whnf
        refine ⟨⟨by omega, by omega⟩, ?_⟩
        conv => whnf
        refine aget_num (i := 12) rfl (get_gd (by omega)) ?_
        conv => whnf
        refine ⟨⟨by omega, by omega⟩, ?_⟩
        conv => whnf
        refine aget_num (i := 13) rfl (get_gd (by omega)) ?_
        conv => whnf
        refine acond_f hx1 ?_
        conv => whnf
        cases hr : (L.getD 12 0 == 1)
        · conv => whnf
          refine GhR.of ⟨rfl, ?_⟩
          rw [← fin 8 (by rw [hrt, hr, hs8]; rfl)]; rfl
        · conv => whnf
          refine GhR.of ⟨rfl, ?_⟩
          rw [← fin 0 (by rw [hrt, hr]; rfl)]; rfl
      · have hs8 : ((sizeL L : Nat) : Int) = v := by omega
        refine acond_f (decide_eq_false c3) ?_
        conv => whnf
        refine ⟨⟨by omega, by omega⟩, ?_⟩
        conv => whnf
        refine aget_num (i := 12) rfl (get_gd (by omega)) ?_
        conv => whnf
        refine ⟨⟨by omega, by omega⟩, ?_⟩
        conv => whnf
        refine aget_num (i := 13) rfl (get_gd (by omega)) ?_
        conv => whnf
        refine acond_f hx1 ?_
        conv => whnf
        cases hr : (L.getD 12 0 == 1)
        · conv => whnf
          refine GhR.of ⟨rfl, ?_⟩
          rw [← fin v (by rw [hrt, hr, hs8]; rfl)]; rfl
        · conv => whnf
          refine GhR.of ⟨rfl, ?_⟩
          rw [← fin 0 (by rw [hrt, hr]; rfl)]; rfl
end Go.AK
namespace Go.AK
open Go Go.RowKit Go.Proofs
set_option linter.unusedVariables false
set_option maxRecDepth 100000
def sW (l : List Int) (k : Nat) : Int := ((WdR l).take k).foldl (· + ·) 0
theorem arb_ctrl (l : List Int) : 1 + arbW l + ctrlW l = dataAt l ∧ 13 ≤ arbW l ∧ arbW l ≤ 32 ∧ 5 ≤ ctrlW l ∧ ctrlW l ≤ 6 ∧ (extL l = true → arbW l = 32 ∧ dataAt l = 39) ∧ (extL l = false → arbW l = 13 ∧ dataAt l = 19) := by
  unfold arbW ctrlW dataAt
  cases extL l <;> simp
theorem WdR1 {l : List Int} (h : l.length < 14) : WdR l = [1] := by unfold WdR; rw [if_pos h]
theorem WdR3 {l : List Int} (h : ¬ l.length < 14) (hw : ¬ whole l = true) : WdR l = [1, (arbW l : Int), (ctrlW l : Int)] := by unfold WdR; rw [if_neg h, if_neg hw]
theorem WdR9 {l : List Int} (h : ¬ l.length < 14) (hw : whole l = true) : WdR l = [1, (arbW l : Int), (ctrlW l : Int), ((aheadN l - dataAt l : Nat) : Int), 15, 1, 1, 1, 7] := by unfold WdR; rw [if_neg h, if_pos hw]
theorem sW_next {l : List Int} {k : Nat} (h : k < (WdR l).length) : sW l (k + 1) = sW l k + (WdR l)[k] := by
  unfold sW
  rw [List.take_succ_eq_append_getElem h, List.foldl_append]; rfl
theorem rnx_at {l : List Int} {k : Nat} (h : k < (WdR l).length) (h1 : sW l k ≤ l.length) (h2 : (l.length : Int) < sW l (k + 1)) : kn l = k := by
  obtain ⟨a1, a2, a3, a4, a5, a6, a7⟩ := arb_ctrl l
  have hb := aheadN_le l
  by_cases c0 : l.length < 14
  · rw [WdR1 c0] at h
    have hk : k = 0 := by simp at h; exact h
    subst hk
    simp only [sW, WdR1 c0, List.take, List.foldl, Nat.reduceAdd] at h2
    unfold kn
    rw [if_pos (by omega)]; rfl
  by_cases c1 : whole l = true
  · have hw2 := of_decide_eq_true c1
    have h9 := WdR9 c0 c1
    rw [h9] at h
    have hk : k = 0 ∨ k = 1 ∨ k = 2 ∨ k = 3 ∨ k = 4 ∨ k = 5 ∨ k = 6 ∨ k = 7 ∨ k = 8 := by simp at h; omega
    have hx : ¬ (l.length ≤ 13 ∨ extL l = true ∧ l.length ≤ 32) := fun e => by
      rcases e with e | ⟨e, e3⟩
      · omega
      · have := (a6 e).2; omega
    rcases hk with rfl | rfl | rfl | rfl | rfl | rfl | rfl | rfl | rfl <;> simp only [sW, h9, List.take, List.foldl, Nat.reduceAdd] at h1 h2 <;> first | omega | skip
    all_goals
      unfold kn
      rw [if_neg (by omega), if_neg hx, if_neg (by rw [c1]; decide)]
      repeat' split
      all_goals omega
  · have c1' : whole l = false := by simpa using c1
    have hw2 := of_decide_eq_false c1'
    have h3 := WdR3 c0 c1
    rw [h3] at h
    have hk : k = 0 ∨ k = 1 ∨ k = 2 := by simp at h; omega
    rcases hk with rfl | rfl | rfl <;> simp only [sW, h3, List.take, List.foldl, Nat.reduceAdd] at h1 h2
    · omega
    · unfold kn
      rw [if_neg (by omega), if_pos]
      · rfl
      · cases e : extL l
        · have := (a7 e).1; exact .inl (by omega)
        · have := (a6 e).1; exact .inr ⟨rfl, by omega⟩
    · unfold kn
      rw [if_neg (by omega), if_neg, if_pos c1']
      · rfl
      · rintro (e | ⟨e, e2⟩)
        · omega
        · have := (a6 e).1; omega
theorem rnx_end {l : List Int} (h1 : sW l (WdR l).length ≤ l.length) : ((WdR l).length = 1 → kn l = 1) ∧ ((WdR l).length ≠ 1 → (sW l (WdR l).length < l.length → kn l = -1) ∧ (¬ sW l (WdR l).length < l.length → kn l = 9)) := by
  obtain ⟨a1, a2, a3, a4, a5, a6, a7⟩ := arb_ctrl l
  have hb := aheadN_le l
  by_cases c0 : l.length < 14
  · have hW := WdR1 c0
    simp only [sW, hW, List.take, List.foldl, List.length_singleton] at h1 ⊢
    refine ⟨fun _ => ?_, fun h => absurd rfl h⟩
    unfold kn
    rw [if_neg (by omega), if_pos (.inl (by omega))]
  by_cases c1 : whole l = true
  · have hw2 := of_decide_eq_true c1
    have h9 := WdR9 c0 c1
    have hx : ¬ (l.length ≤ 13 ∨ extL l = true ∧ l.length ≤ 32) := fun e => by
      rcases e with e | ⟨e, e3⟩
      · omega
      · have := (a6 e).2; omega
    simp only [sW, h9, List.length_cons, List.length_nil, Nat.reduceAdd, List.take, List.foldl] at h1 ⊢
    refine ⟨fun h => absurd h (by omega), fun _ => ⟨fun h => ?_, fun h => ?_⟩⟩
    all_goals
      unfold kn
      rw [if_neg (by omega), if_neg hx, if_neg (by rw [c1]; decide)]
      repeat' split
      all_goals omega
  · have c1' : whole l = false := by simpa using c1
    have hw2 := of_decide_eq_false c1'
    have h3 := WdR3 c0 c1
    simp only [sW, h3, List.length_cons, List.length_nil, Nat.reduceAdd, List.take, List.foldl] at h1 ⊢
    omega
theorem sW_bounds {l : List Int} {k : Nat} (h : k < (WdR l).length) : 0 ≤ (WdR l)[k] ∧ (WdR l)[k] ≤ 100 := by
  obtain ⟨a1, a2, a3, a4, a5, a6, a7⟩ := arb_ctrl l
  have hb := aheadN_le l
  have hm := List.getElem_mem h
  generalize (WdR l)[k] = y at hm
  unfold WdR at hm
  split at hm
  · simp at hm; omega
  · split at hm
    · simp at hm
      rcases hm with rfl | rfl | rfl | rfl | rfl | rfl | rfl <;> omega
    · simp at hm
      rcases hm with rfl | rfl | rfl <;> omega
set_option maxHeartbeats 4000000 in
theorem rnext_spec (L : List Int) (hl : isLv L) (hL : L.length < 1000000) : ACall Try.prog 24 [.rs (ints L) 0 1 L.length] [] fun r H => (∃ i, r = .ret (.tup [.i .i64 (kn L), .i .i64 i])) ∧ H = [] := by
  refine ACall.gh ?_
  refine ACall.enter tok false Try.func24 rfl rfl rfl (AW_sound (ip := false) tok _ _ _ _ ?_)
  have fin : ∀ k i (H : Heap), k = kn L → GhR 0 (fun r H => (∃ i, r = ARes.ret (.tup [.i .i64 (kn L), .i .i64 i])) ∧ H = []) (.ret (.tup [.i .i64 k, .i .i64 i])) H := by
    rintro k i H rfl
    exact GhR.sel [] rfl (GhR.of ⟨⟨i, rfl⟩, rfl⟩)
  have hlen := WdR_len L
  have hat := fun k => rnx_at (l := L) (k := k)
  have hend := rnx_end (l := L)
  have hnx := fun k => sW_next (l := L) (k := k)
  have hbd := fun k => sW_bounds (l := L) (k := k)
  have hs0 : sW L 0 = 0 := rfl
  conv => whnf
  refine ACall.mono (rwidths_spec L hl hL) ?_
  rintro r H ⟨rfl, rfl⟩
  generalize WdR L = W at hlen hat hend hnx hbd
  conv => whnf
  have hW9 : 1 ≤ W.length ∧ W.length ≤ 9 := by rw [hlen]; (repeat' split) <;> omega
  refine ALoop.ind (ip := false) tok (fun m r H => ∃ (k : Nat), k ≤ W.length ∧ m = W.length - k ∧ 0 ≤ sW L k ∧ sW L k ≤ L.length ∧ H = [.c (ints W)] ∧
    r = [(6, .i .i64 k), (5, .i .i64 ((L.length : Int) - sW L k)), (4, .sl (some (0, 0)) 1 W.length W.length)]) W.length ?_ ?_
  · refine Gh.regs [6, 5, 4] (Gh.of ⟨0, by omega, rfl, by rw [hs0]; omega, by rw [hs0]; omega, rfl, ?_⟩)
    rw [hs0, Int.sub_zero]; rfl
  · rintro m r H ⟨k, hk, rfl, hp0, hp1, rfl, rfl⟩
    conv => whnf
    by_cases h : (k : Int) < W.length
    · have hkl : k < W.length := by omega
      have h1 := hnx k hkl
      have h2 := hbd k hkl
      refine acond_t (decide_eq_true h) ?_
      conv => whnf
      refine ⟨⟨by omega, h⟩, ?_⟩
      conv => whnf
      refine aget_num (i := k) (by omega) (List.getElem?_eq_getElem hkl) ?_
      conv => whnf
      by_cases h3 : (L.length : Int) - sW L k < W[k]
      · refine acond_t (decide_eq_true h3) ?_
        conv => whnf
        exact fin _ _ _ (hat k hkl hp1 (by omega)).symm
      · refine acond_f (decide_eq_false h3) ?_
        conv => whnf
        refine ⟨⟨by omega, h⟩, ?_⟩
        conv => whnf
        refine aget_num (i := k) (by omega) (List.getElem?_eq_getElem hkl) ?_
        conv => whnf
        refine Gh.regs [6, 5, 4] (Gh.of ⟨W.length - (k + 1), by omega, k + 1, by omega, rfl, by omega, by omega, rfl, ?_⟩)
        rw [w64 (x := (k : Int) + 1) (by omega) (by omega), w64 (by omega) (by omega), h1, show (L.length : Int) - sW L k - W[k] = (L.length : Int) - (sW L k + W[k]) from by omega]; rfl
    · have hke : k = W.length := by omega
      obtain ⟨e1, e2⟩ := hend (by rw [← hke]; exact hp1)
      refine acond_f (decide_eq_false h) ?_
      conv => whnf
      by_cases h3 : W.length = 1
      · refine acond_t (beq_iff_eq.2 (by omega)) ?_
        conv => whnf
        exact fin _ _ _ (e1 h3).symm
      · obtain ⟨e3, e4⟩ := e2 h3
        refine acond_f (beq_eq_false_iff_ne.2 (by omega)) ?_
        conv => whnf
        rw [← hke] at e3 e4
        by_cases h4 : (L.length : Int) - sW L k > 0
        · refine acond_t (decide_eq_true h4) ?_
          conv => whnf
          exact fin _ _ _ (e3 (by omega)).symm
        · refine acond_f (decide_eq_false h4) ?_
          conv => whnf
          exact fin _ _ _ (e4 (by omega)).symm
theorem rahead_spec (L : List Int) (hl : isLv L) (hL : L.length < 1000000) (hw : whole L = true) : ACall Try.prog 25 [.rs (ints L) 0 1 L.length] [] fun r H => r = .ret (.i .i64 (aheadN L)) ∧ H = [] := by
  refine ACall.gh ?_
  refine ACall.enter tok false Try.func25 rfl rfl rfl (AW_sound (ip := false) tok _ _ _ _ ?_)
  obtain ⟨a1, a2, a3, a4, a5, a6, a7⟩ := arb_ctrl L
  have hb := aheadN_le L
  have hw2 := of_decide_eq_true hw
  have h9 := WdR9 (l := L) (by omega) hw
  have hwid := rwidths_spec L hl hL
  rw [h9] at hwid
  conv => whnf
  refine ACall.mono hwid ?_
  rintro r H ⟨rfl, rfl⟩
  conv => whnf
  refine ADraw.of tok mixed false [0, 1, 2, 3, 4, 5, 6, 7, 8, 9, 10, 11, 12, 13, 14, 15] [] (by kernel_rfl) (fun _ _ _ _ h => h) ?_
  conv => whnf
  refine ⟨⟨by omega, by show (_ : Int) < ((9 : Nat) : Int); omega⟩, ?_⟩
  conv => whnf
  refine ⟨⟨by omega, by show (_ : Int) < ((9 : Nat) : Int); omega⟩, ?_⟩
  conv => whnf
  refine ⟨⟨by omega, by show (_ : Int) < ((9 : Nat) : Int); omega⟩, ?_⟩
  conv => whnf
  refine ⟨⟨by omega, by show (_ : Int) < ((9 : Nat) : Int); omega⟩, ?_⟩
  conv => whnf
  refine GhR.sel [] rfl (GhR.of ⟨?_, rfl⟩)
  rw [w64 (x := 1 + (arbW L : Int)) (by omega) (by omega), w64 (x := 1 + (arbW L : Int) + (ctrlW L : Int)) (by omega) (by omega), w64 (by omega) (by omega), show 1 + (arbW L : Int) + (ctrlW L : Int) + ((aheadN L - dataAt L : Nat) : Int) = ((aheadN L : Nat) : Int) from by omega]
  rfl
end Go.AK
namespace Go.AK
open Go Go.RowKit Go.Proofs
set_option linter.unusedVariables false
set_option maxRecDepth 100000
def frC (l : List Int) (id : Int) (rt : Bool) (len : Int) (n : Nat) : List AV := .i .i64 id :: .b (extL l) :: .b rt :: .i .i64 len :: nums .u8 (dataK l n)
theorem frC_set (l : List Int) (id : Int) (rt : Bool) (len : Int) {k o : Nat} (hk : k < 8) (ho : o = k + 4) : setCells (frC l id rt len k) o [.i .u8 (byteL l k)] = frC l id rt len (k + 1) := by
  subst ho
  show (.i .i64 id :: .b (extL l) :: .b rt :: .i .i64 len :: (nums .u8 (dataK l k)).set k (.i .u8 (byteL l k))) = _
  rw [nums_set, dataK_next l hk]
  rfl
set_option maxHeartbeats 16000000 in
theorem rframe_spec (L : List Int) (hl : isLv L) (hL : L.length < 1000000) (hw : whole L = true) (hn : aheadN L ≤ L.length) (h0 : L.getD 0 0 = 0) : ACall Try.prog 27 [.rs (ints L) 0 1 L.length] [] fun r H => r = .ret (.tup [(frL L).av, .i .i64 0]) ∧ H = [] := by
  refine ACall.gh ?_
  refine ACall.enter tok false Try.func27 rfl rfl rfl (AW_sound (ip := false) tok _ _ _ _ ?_)
  obtain ⟨a1, a2, a3, a4, a5, a6, a7⟩ := arb_ctrl L
  have hb := aheadN_le L
  have hwd := of_decide_eq_true hw
  have hnb := aheadN_nB L
  have hnb8 := nB_le L
  have hatw : IntKind.i64.wrap (IntKind.i64.wrap (1 + (arbW L : Int)) + (ctrlW L : Int)) = ((dataAt L : Nat) : Int) := by
    rw [w64 (x := 1 + (arbW L : Int)) (by omega) (by omega), w64 (by omega) (by omega)]; omega
  have hat4 : IntKind.i64.wrap (IntKind.i64.wrap (IntKind.i64.wrap (1 + (arbW L : Int)) + (ctrlW L : Int)) - 4) = ((dataAt L - 4 : Nat) : Int) := by
    rw [hatw, w64 (by omega) (by omega)]; omega
  have hq : IntKind.i64.wrap ((((aheadN L - dataAt L : Nat) : Nat) : Int).tdiv 8) = ((nB L : Nat) : Int) := by
    rw [show ((aheadN L - dataAt L : Nat) : Int) = ((nB L : Nat) : Int) * 8 from by omega, Int.mul_tdiv_cancel _ (by omega), w64 (by omega) (by omega)]
  have hv4 := valI_small (cut_lv hl (dataAt L - 4) (dataAt L)) (n := 4) (by rw [cut_length _ _ _ (by omega)]; omega)
  have hwid := rwidths_spec L hl hL
  rw [WdR9 (l := L) (by omega) hw] at hwid
  have hval1 : ACall Try.prog 46 [.rs (ints L) 1 1 11] [] fun r H => r = .ret (.i .i64 (valI (cut L 1 12))) ∧ H = [] :=
    ACall.args (rvalue_spec (cut L 1 12) (by rw [cut_length _ _ _ (by omega)]; omega) (cut_lv hl _ _)) (VLe.cut (a := 1) (b := 12) (by omega) (by omega) rfl rfl VLe.nil)
  conv => whnf
  refine ACall.frameH [] [] rfl (args' := [.rs (ints L) 0 1 L.length]) (Hc := []) (by show [AV.rs (subs _ (ints L)) _ _ _] = _; first | (rw [subs_nums]; done) | (rw [subs_nums]; rfl)) rfl (rahead_spec L hl hL hw) ?_
  rintro r H ⟨rfl, rfl⟩
  refine ⟨.inl rfl, [.c Fr0.cells], rfl, ?_⟩
  conv => whnf
  have hd0 : decide (((aheadN L : Nat) : Int) < 0) = false := decide_eq_false (by omega)
  repeat (refine acond_f hd0 ?_; conv => whnf)
  refine acond_f (decide_eq_false (by omega)) ?_
  conv => whnf
  refine ⟨⟨by omega, by omega⟩, ?_⟩
  conv => whnf
  refine aget_num (i := 0) rfl (get_gd (by omega)) ?_
  rw [h0]
  conv => whnf
  refine ACall.frameH [] [] rfl (args' := [.rs (ints L) 0 1 L.length]) (Hc := []) (by show [AV.rs (subs _ (ints L)) _ _ _] = _; first | (rw [subs_nums]; done) | (rw [subs_nums]; rfl)) rfl hwid ?_
  rintro r H ⟨rfl, rfl⟩
  refine ⟨.inl rfl, [.c Fr0.cells, .c (ints [1, (arbW L : Int), (ctrlW L : Int), ((aheadN L - dataAt L : Nat) : Int), 15, 1, 1, 1, 7])], rfl, ?_⟩
  conv => whnf
  refine ADraw.post (Q' := fun x r H => x = .normal ∧ H = [.c Fr0.cells, .c (ints [1, (arbW L : Int), (ctrlW L : Int), ((aheadN L - dataAt L : Nat) : Int), 15, 1, 1, 1, 7]), .c (frC L (valI (cut L 1 12)) (L.getD 12 0 == 1) 0 0)] ∧ keepR [0, 2, 5, 6] r = [(0, .rs (ints L) 0 1 L.length), (2, .p (some (0, 0))), (5, .sl (some (1, 0)) 1 9 9), (6, .p (some (2, 0)))]) ?_ ?_ (fun x r H hn h => absurd h.1 hn)
  · refine ADraw.tree tok mixed false [5, 9] [0, 1, 3, 4, 5, 6, 7, 8, 9, 10] (.node (.cons 2 (.node (.cons 11 (.node (.cons 12 (.node (.cons 13 (.node .nil) .nil)) .nil)) (.cons 12 (.node (.cons 11 (.node (.cons 13 (.node .nil) .nil)) .nil)) .nil))) (.cons 12 (.node (.cons 2 (.node (.cons 11 (.node (.cons 13 (.node .nil) .nil)) .nil)) .nil)) .nil))) (by kernel_rfl) (fun _ _ _ _ h => nomatch h.1) ?_
    conv => whnf
    refine ⟨⟨by omega, by omega, by omega⟩, ?_⟩
    conv => whnf
    refine ⟨⟨by omega, by omega⟩, ?_⟩
    conv => whnf
    refine aget_num (i := 13) rfl (get_gd (by omega)) ?_
    conv => whnf
    refine ⟨⟨by omega, by omega⟩, ?_⟩
    conv => whnf
    refine aget_num (i := 12) rfl (get_gd (by omega)) ?_
    conv => whnf
    refine And.intro ?_ (And.intro ?_ trivial)
    · conv => whnf
      refine ACall.frameH [] [] rfl (args' := [.rs (ints L) 1 1 11]) (Hc := []) (by show [AV.rs (subs _ (ints L)) _ _ _] = _; first | (rw [subs_nums]; done) | (rw [subs_nums]; rfl)) rfl hval1 ?_
      rintro r H ⟨rfl, rfl⟩
      refine ⟨.inl rfl, [.c Fr0.cells, .c (ints [1, (arbW L : Int), (ctrlW L : Int), ((aheadN L - dataAt L : Nat) : Int), 15, 1, 1, 1, 7])], rfl, ?_⟩
      conv => whnf
      refine And.intro ?_ (And.intro ?_ trivial)
      · conv => whnf
        refine ⟨by show 0 + 12 ≤ 12; omega, ?_⟩
        conv => whnf
        exact ⟨rfl, rfl, rfl⟩
      · conv => whnf
        refine ⟨by show 0 + 12 ≤ 12; omega, ?_⟩
        conv => whnf
        exact ⟨rfl, rfl, rfl⟩
    · conv => whnf
      refine ACall.frameH [] [] rfl (args' := [.rs (ints L) 1 1 11]) (Hc := []) (by show [AV.rs (subs _ (ints L)) _ _ _] = _; first | (rw [subs_nums]; done) | (rw [subs_nums]; rfl)) rfl hval1 ?_
      rintro r H ⟨rfl, rfl⟩
      refine ⟨.inl rfl, _, rfl, ?_⟩
      conv => whnf
      refine ⟨by show 0 + 12 ≤ 12; omega, ?_⟩
      conv => whnf
      exact ⟨rfl, rfl, rfl⟩
  · rintro r H ⟨_, rfl, hr⟩
    refine Gh.regs [0, 2, 5, 6] ?_
    rw [hr]
    refine Gh.of ?_
    conv => whnf
    cases hx : extL L
    · have hid : valI (cut L 1 12) = idL L := by unfold idL; rw [hx]; rfl
      have hrt : rtrL L = (L.getD 12 0 == 1) := by unfold rtrL; rw [hx]; rfl
      rw [hid]
      conv => whnf
      refine ADraw.of tok mixed false [0, 1, 2, 3, 4, 5, 6, 7, 8, 9, 10, 11] [] (by kernel_rfl) (fun _ _ _ _ h => h) ?_
      conv => whnf
      refine ⟨by omega, ?_⟩
      conv => whnf
      refine ⟨by omega, ?_⟩
      conv => whnf
      refine ⟨by omega, ?_⟩
      conv => whnf
      refine ⟨⟨by rw [hat4]; omega, by rw [hat4, hatw]; omega, by rw [hatw]; omega⟩, ?_⟩
      conv => whnf
      refine ACall.frameH [] [] rfl (args' := [.rs (ints L) (dataAt L - 4) 1 4]) (Hc := []) ?_ rfl
        (ACall.args (rvalue_spec (cut L (dataAt L - 4) (dataAt L)) (by rw [cut_length _ _ _ (by omega)]; omega) (cut_lv hl _ _)) (VLe.cut (a := dataAt L - 4) (b := dataAt L) (by omega) (by omega) rfl (by omega) VLe.nil)) ?_
      · show [AV.rs (subs _ (ints L)) (0 + Int.toNat (IntKind.i64.wrap (IntKind.i64.wrap (IntKind.i64.wrap (1 + (arbW L : Int)) + (ctrlW L : Int)) - 4)) * 1) 1 (Int.toNat (IntKind.i64.wrap (IntKind.i64.wrap (1 + (arbW L : Int)) + (ctrlW L : Int))) - Int.toNat (IntKind.i64.wrap (IntKind.i64.wrap (IntKind.i64.wrap (1 + (arbW L : Int)) + (ctrlW L : Int)) - 4)))] = _
        rw [subs_nums, hat4, hatw, Int.toNat_natCast, Int.toNat_natCast, show 0 + (dataAt L - 4) * 1 = dataAt L - 4 from by omega, show dataAt L - (dataAt L - 4) = 4 from by omega]
      rintro r H ⟨rfl, rfl⟩
      refine ⟨.inl rfl, [.c Fr0.cells, .c (ints [1, (arbW L : Int), (ctrlW L : Int), ((aheadN L - dataAt L : Nat) : Int), 15, 1, 1, 1, 7]), .c (frC L (idL L) (L.getD 12 0 == 1) 0 0)], rfl, ?_⟩
      conv => whnf
      refine ⟨by show 0 + 3 + 1 ≤ 12; omega, ?_⟩
      conv => whnf
      have hsz : sizeL L = min (valI (cut L (dataAt L - 4) (dataAt L))).toNat 8 := rfl
      generalize hV : valI (cut L (dataAt L - 4) (dataAt L)) = v at hv4 hsz
      by_cases h8 : v > 8
      · have hs8 : ((sizeL L : Nat) : Int) = 8 := by omega
        refine acond_t (decide_eq_true h8) ?_
        conv => whnf
        refine ⟨by show 0 + 3 + 1 ≤ 12; omega, ?_⟩
        conv => whnf
        refine ALoop.ind (ip := false) tok (fun m r H => ∃ (k : Nat), k ≤ nB L ∧ m = nB L - k ∧ H = [.c Fr0.cells, .c (ints [1, (arbW L : Int), (ctrlW L : Int), ((aheadN L - dataAt L : Nat) : Int), 15, 1, 1, 1, 7]), .c (frC L (idL L) (L.getD 12 0 == 1) 8 k)] ∧
          r = [(8, .i .i64 k), (7, .i .i64 (dataAt L)), (0, .rs (ints L) 0 1 L.length), (2, .p (some (0, 0))), (5, .sl (some (1, 0)) 1 9 9), (6, .p (some (2, 0)))]) (nB L) ?_ ?_
        · refine Gh.regs [8, 7, 0, 2, 5, 6] (Gh.of ⟨0, by omega, rfl, ?_, ?_⟩)
          · rfl
          · rw [hatw]; rfl
        · rintro m r H ⟨k, hk, rfl, rfl, rfl⟩
          conv => whnf
          refine ⟨by omega, ?_⟩
          conv => whnf
          refine ⟨by omega, ?_⟩
          conv => whnf
          by_cases h : (k : Int) < nB L
          · have hkn : k < nB L := by omega
            have hbt := byteL_in hl k
            refine acond_t (decide_eq_true (by rw [hq]; exact h)) ?_
            conv => whnf
            have e1 : IntKind.i64.wrap ((dataAt L : Int) + IntKind.i64.wrap (8 * (k : Int))) = ((dataAt L + 8 * k : Nat) : Int) := by
              rw [w64 (x := 8 * (k : Int)) (by omega) (by omega), w64 (by omega) (by omega)]; omega
            have e2 : IntKind.i64.wrap (IntKind.i64.wrap ((dataAt L : Int) + IntKind.i64.wrap (8 * (k : Int))) + 8) = ((dataAt L + 8 * k + 8 : Nat) : Int) := by
              rw [e1, w64 (by omega) (by omega)]; omega
            refine ⟨⟨by rw [e1]; omega, by rw [e2, e1]; omega, by rw [e2]; omega⟩, ?_⟩
            conv => whnf
            refine ACall.frameH [] [] rfl (args' := [.rs (ints L) (dataAt L + 8 * k) 1 8]) (Hc := []) ?_ rfl
              (ACall.args (rvalue_spec (cut L (dataAt L + 8 * k) (dataAt L + 8 * k + 8)) (by rw [cut_length _ _ _ (by omega)]; omega) (cut_lv hl _ _)) (VLe.cut (a := dataAt L + 8 * k) (b := dataAt L + 8 * k + 8) (by omega) (by omega) rfl (by omega) VLe.nil)) ?_
            · show [AV.rs (subs _ (ints L)) (0 + Int.toNat (IntKind.i64.wrap ((dataAt L : Int) + IntKind.i64.wrap (8 * (k : Int)))) * 1) 1 (Int.toNat (IntKind.i64.wrap (IntKind.i64.wrap ((dataAt L : Int) + IntKind.i64.wrap (8 * (k : Int))) + 8)) - Int.toNat (IntKind.i64.wrap ((dataAt L : Int) + IntKind.i64.wrap (8 * (k : Int)))))] = _
              rw [subs_nums, e2, e1, Int.toNat_natCast, Int.toNat_natCast, show 0 + (dataAt L + 8 * k) * 1 = dataAt L + 8 * k from by omega, show dataAt L + 8 * k + 8 - (dataAt L + 8 * k) = 8 from by omega]
            rintro r H ⟨rfl, rfl⟩
            refine ⟨.inl rfl, [.c Fr0.cells, .c (ints [1, (arbW L : Int), (ctrlW L : Int), ((aheadN L - dataAt L : Nat) : Int), 15, 1, 1, 1, 7]), .c (frC L (idL L) (L.getD 12 0 == 1) 8 k)], rfl, ?_⟩
            conv => whnf
            refine ⟨⟨by omega, by omega⟩, ?_⟩
            conv => whnf
            refine ⟨by show 0 + 4 + (k : Int).toNat * 1 + 1 ≤ 12; omega, ?_⟩
            conv => whnf
            refine Gh.regs [8, 7, 0, 2, 5, 6] (Gh.of ⟨nB L - (k + 1), by omega, k + 1, by omega, rfl, ?_, ?_⟩)
            · show [_, _, Blk.c (setCells (frC L (idL L) (L.getD 12 0 == 1) 8 k) (0 + 4 + (k : Int).toNat * 1) [.i .u8 (IntKind.u8.wrap (byteL L k))])] = _
              rw [show IntKind.u8.wrap (byteL L k) = byteL L k from by rw [IntKind.wrap_u8]; omega, frC_set L _ _ _ (by omega) (by omega)]
            · rw [w64 (by omega) (by omega)]; rfl
          · refine acond_f (decide_eq_false (by rw [hq]; exact h)) ?_
            conv => whnf
            have hk2 : k = nB L := by omega
            refine ⟨by show 0 + 12 ≤ 12; omega, ?_⟩
            conv => whnf
            refine GhR.sel [] rfl (GhR.of ⟨?_, rfl⟩)
            rw [hk2]
            unfold frL
            rw [hs8, hrt]
            rfl
      · have hs8 : ((sizeL L : Nat) : Int) = v := by omega
        refine acond_f (decide_eq_false h8) ?_
        conv => whnf
        refine ALoop.ind (ip := false) tok (fun m r H => ∃ (k : Nat), k ≤ nB L ∧ m = nB L - k ∧ H = [.c Fr0.cells, .c (ints [1, (arbW L : Int), (ctrlW L : Int), ((aheadN L - dataAt L : Nat) : Int), 15, 1, 1, 1, 7]), .c (frC L (idL L) (L.getD 12 0 == 1) v k)] ∧
          r = [(8, .i .i64 k), (7, .i .i64 (dataAt L)), (0, .rs (ints L) 0 1 L.length), (2, .p (some (0, 0))), (5, .sl (some (1, 0)) 1 9 9), (6, .p (some (2, 0)))]) (nB L) ?_ ?_
        · refine Gh.regs [8, 7, 0, 2, 5, 6] (Gh.of ⟨0, by omega, rfl, ?_, ?_⟩)
          · rfl
          · rw [hatw]; rfl
        · rintro m r H ⟨k, hk, rfl, rfl, rfl⟩
          conv => whnf
          refine ⟨by omega, ?_⟩
          conv => whnf
          refine ⟨by omega, ?_⟩
          conv => whnf
          by_cases h : (k : Int) < nB L
          · have hkn : k < nB L := by omega
            have hbt := byteL_in hl k
            refine acond_t (decide_eq_true (by rw [hq]; exact h)) ?_
            conv => whnf
            have e1 : IntKind.i64.wrap ((dataAt L : Int) + IntKind.i64.wrap (8 * (k : Int))) = ((dataAt L + 8 * k : Nat) : Int) := by
              rw [w64 (x := 8 * (k : Int)) (by omega) (by omega), w64 (by omega) (by omega)]; omega
            have e2 : IntKind.i64.wrap (IntKind.i64.wrap ((dataAt L : Int) + IntKind.i64.wrap (8 * (k : Int))) + 8) = ((dataAt L + 8 * k + 8 : Nat) : Int) := by
              rw [e1, w64 (by omega) (by omega)]; omega
            refine ⟨⟨by rw [e1]; omega, by rw [e2, e1]; omega, by rw [e2]; omega⟩, ?_⟩
            conv => whnf
            refine ACall.frameH [] [] rfl (args' := [.rs (ints L) (dataAt L + 8 * k) 1 8]) (Hc := []) ?_ rfl
              (ACall.args (rvalue_spec (cut L (dataAt L + 8 * k) (dataAt L + 8 * k + 8)) (by rw [cut_length _ _ _ (by omega)]; omega) (cut_lv hl _ _)) (VLe.cut (a := dataAt L + 8 * k) (b := dataAt L + 8 * k + 8) (by omega) (by omega) rfl (by omega) VLe.nil)) ?_
            · show [AV.rs (subs _ (ints L)) (0 + Int.toNat (IntKind.i64.wrap ((dataAt L : Int) + IntKind.i64.wrap (8 * (k : Int)))) * 1) 1 (Int.toNat (IntKind.i64.wrap (IntKind.i64.wrap ((dataAt L : Int) + IntKind.i64.wrap (8 * (k : Int))) + 8)) - Int.toNat (IntKind.i64.wrap ((dataAt L : Int) + IntKind.i64.wrap (8 * (k : Int)))))] = _
              rw [subs_nums, e2, e1, Int.toNat_natCast, Int.toNat_natCast, show 0 + (dataAt L + 8 * k) * 1 = dataAt L + 8 * k from by omega, show dataAt L + 8 * k + 8 - (dataAt L + 8 * k) = 8 from by omega]
            rintro r H ⟨rfl, rfl⟩
            refine ⟨.inl rfl, [.c Fr0.cells, .c (ints [1, (arbW L : Int), (ctrlW L : Int), ((aheadN L - dataAt L : Nat) : Int), 15, 1, 1, 1, 7]), .c (frC L (idL L) (L.getD 12 0 == 1) v k)], rfl, ?_⟩
            conv => whnf
            refine ⟨⟨by omega, by omega⟩, ?_⟩
            conv => whnf
            refine ⟨by show 0 + 4 + (k : Int).toNat * 1 + 1 ≤ 12; omega, ?_⟩
            conv => whnf
            refine Gh.regs [8, 7, 0, 2, 5, 6] (Gh.of ⟨nB L - (k + 1), by omega, k + 1, by omega, rfl, ?_, ?_⟩)
            · show [_, _, Blk.c (setCells (frC L (idL L) (L.getD 12 0 == 1) v k) (0 + 4 + (k : Int).toNat * 1) [.i .u8 (IntKind.u8.wrap (byteL L k))])] = _
              rw [show IntKind.u8.wrap (byteL L k) = byteL L k from by rw [IntKind.wrap_u8]; omega, frC_set L _ _ _ (by omega) (by omega)]
            · rw [w64 (by omega) (by omega)]; rfl
          · refine acond_f (decide_eq_false (by rw [hq]; exact h)) ?_
            conv => whnf
            have hk2 : k = nB L := by omega
            refine ⟨by show 0 + 12 ≤ 12; omega, ?_⟩
            conv => whnf
            refine GhR.sel [] rfl (GhR.of ⟨?_, rfl⟩)
            rw [hk2]
            unfold frL
            rw [hs8, hrt]
            rfl
    · have hd39 : dataAt L = 39 := by unfold dataAt; rw [if_pos hx]
      have c1 : (cut L 1 12).length = 11 := cut_length L 1 12 (by omega)
      have c2 : (cut L 14 32).length = 18 := cut_length L 14 32 (by omega)
      have k1 := valI_small (cut_lv hl 1 12) (n := 11) (by omega)
      have k2 := valI_small (cut_lv hl 14 32) (n := 18) (by omega)
      have h11 : (2 : Int) ^ 11 = 2048 := by decide
      have h18 : (2 : Int) ^ 18 = 262144 := by decide
      have hid : IntKind.i64.wrap (IntKind.i64.wrap (262144 * valI (cut L 1 12)) + valI (cut L 14 32)) = idL L := by
        rw [w64 (x := 262144 * _) (by omega) (by omega), w64 (by omega) (by omega)]
        unfold idL; rw [if_pos hx]
      have hrt : rtrL L = (L.getD 32 0 == 1) := by unfold rtrL; rw [hx]; rfl
      have hval2 : ACall Try.prog 46 [.rs (ints L) 14 1 18] [] fun r H => r = .ret (.i .i64 (valI (cut L 14 32))) ∧ H = [] :=
        ACall.args (rvalue_spec (cut L 14 32) (by omega) (cut_lv hl _ _)) (VLe.cut (a := 14) (b := 32) (by omega) (by omega) rfl rfl VLe.nil)
      conv => whnf
      refine ADraw.post (Q' := fun x r H => x = .normal ∧ H = [.c Fr0.cells, .c (ints [1, (arbW L : Int), (ctrlW L : Int), ((aheadN L - dataAt L : Nat) : Int), 15, 1, 1, 1, 7]), .c (frC L (idL L) (L.getD 12 0 == 1) 0 0)] ∧ keepR [0, 2, 5, 6] r = [(0, .rs (ints L) 0 1 L.length), (2, .p (some (0, 0))), (5, .sl (some (1, 0)) 1 9 9), (6, .p (some (2, 0)))]) ?_ ?_ (fun x r H hn h => absurd h.1 hn)
      · refine ADraw.tree tok mixed false [] [0, 3, 4] (.node (.cons 1 (.node (.cons 2 (.node (.cons 5 (.node (.cons 6 (.node (.cons 7 (.node (.cons 8 (.node .nil) .nil)) .nil)) .nil)) .nil)) (.cons 5 (.node (.cons 2 (.node (.cons 6 (.node (.cons 7 (.node (.cons 8 (.node .nil) .nil)) .nil)) .nil)) .nil)) .nil))) (.cons 5 (.node (.cons 1 (.node (.cons 2 (.node (.cons 6 (.node (.cons 7 (.node (.cons 8 (.node .nil) .nil)) .nil)) .nil)) .nil)) .nil)) .nil))) (by kernel_rfl) (fun _ _ _ _ h => nomatch h.1) ?_
        conv => whnf
        refine ⟨⟨by omega, by omega, by omega⟩, ?_⟩
        conv => whnf
        refine And.intro ?_ (And.intro ?_ trivial)
        · conv => whnf
          refine And.intro ?_ (And.intro ?_ trivial)
          · conv => whnf
            refine ACall.frameH [] [] rfl (args' := [.rs (ints L) 14 1 18]) (Hc := []) (by show [AV.rs (subs _ (ints L)) _ _ _] = _; first | (rw [subs_nums]; done) | (rw [subs_nums]; rfl)) rfl hval2 ?_
            rintro r H ⟨rfl, rfl⟩
            refine ⟨.inl rfl, [.c Fr0.cells, .c (ints [1, (arbW L : Int), (ctrlW L : Int), ((aheadN L - dataAt L : Nat) : Int), 15, 1, 1, 1, 7]), .c (frC L (valI (cut L 1 12)) (L.getD 12 0 == 1) 0 0)], rfl, ?_⟩
            conv => whnf
            refine ⟨by show 0 + 1 ≤ 12; omega, ?_⟩
            conv => whnf
            refine ⟨rfl, ?_, rfl⟩
            show [_, _, Blk.c (setCells (frC L (valI (cut L 1 12)) (L.getD 12 0 == 1) 0 0) 0 [.i .i64 (IntKind.i64.wrap (IntKind.i64.wrap (262144 * valI (cut L 1 12)) + valI (cut L 14 32)))])] = _
            rw [hid]; rfl
          · conv => whnf
            refine ACall.frameH [] [] rfl (args' := [.rs (ints L) 14 1 18]) (Hc := []) (by show [AV.rs (subs _ (ints L)) _ _ _] = _; first | (rw [subs_nums]; done) | (rw [subs_nums]; rfl)) rfl hval2 ?_
            rintro r H ⟨rfl, rfl⟩
            refine ⟨.inl rfl, [.c Fr0.cells, .c (ints [1, (arbW L : Int), (ctrlW L : Int), ((aheadN L - dataAt L : Nat) : Int), 15, 1, 1, 1, 7]), .c (frC L (valI (cut L 1 12)) (L.getD 12 0 == 1) 0 0)], rfl, ?_⟩
            conv => whnf
            refine ⟨by show 0 + 1 ≤ 12; omega, ?_⟩
            conv => whnf
            refine ⟨rfl, ?_, rfl⟩
            show [_, _, Blk.c (setCells (frC L (valI (cut L 1 12)) (L.getD 12 0 == 1) 0 0) 0 [.i .i64 (IntKind.i64.wrap (IntKind.i64.wrap (262144 * valI (cut L 1 12)) + valI (cut L 14 32)))])] = _
            rw [hid]; rfl
        · conv => whnf
          refine ACall.frameH [] [] rfl (args' := [.rs (ints L) 14 1 18]) (Hc := []) (by show [AV.rs (subs _ (ints L)) _ _ _] = _; first | (rw [subs_nums]; done) | (rw [subs_nums]; rfl)) rfl hval2 ?_
          rintro r H ⟨rfl, rfl⟩
          refine ⟨.inl rfl, [.c Fr0.cells, .c (ints [1, (arbW L : Int), (ctrlW L : Int), ((aheadN L - dataAt L : Nat) : Int), 15, 1, 1, 1, 7]), .c (frC L (valI (cut L 1 12)) (L.getD 12 0 == 1) 0 0)], rfl, ?_⟩
          conv => whnf
          refine ⟨by show 0 + 1 ≤ 12; omega, ?_⟩
          conv => whnf
          refine ⟨rfl, ?_, rfl⟩
          show [_, _, Blk.c (setCells (frC L (valI (cut L 1 12)) (L.getD 12 0 == 1) 0 0) 0 [.i .i64 (IntKind.i64.wrap (IntKind.i64.wrap (262144 * valI (cut L 1 12)) + valI (cut L 14 32)))])] = _
          rw [hid]; rfl
      · rintro r H ⟨_, rfl, hr⟩
        refine Gh.regs [0, 2, 5, 6] ?_
        rw [hr]
        refine Gh.of ?_
        conv => whnf
        refine ⟨⟨by omega, by omega⟩, ?_⟩
        conv => whnf
        refine aget_num (i := 32) rfl (get_gd (by omega)) ?_
        conv => whnf
        refine ⟨by show 0 + 2 + 1 ≤ 12; omega, ?_⟩
        conv => whnf
        refine ADraw.of tok mixed false [0, 1, 2, 3, 4, 5, 6, 7, 8, 9, 10, 11] [] (by kernel_rfl) (fun _ _ _ _ h => h) ?_
        conv => whnf
        refine ⟨by omega, ?_⟩
        conv => whnf
        refine ⟨by omega, ?_⟩
        conv => whnf
        refine ⟨by omega, ?_⟩
        conv => whnf
        refine ⟨⟨by rw [hat4]; omega, by rw [hat4, hatw]; omega, by rw [hatw]; omega⟩, ?_⟩
        conv => whnf
        refine ACall.frameH [] [] rfl (args' := [.rs (ints L) (dataAt L - 4) 1 4]) (Hc := []) ?_ rfl
          (ACall.args (rvalue_spec (cut L (dataAt L - 4) (dataAt L)) (by rw [cut_length _ _ _ (by omega)]; omega) (cut_lv hl _ _)) (VLe.cut (a := dataAt L - 4) (b := dataAt L) (by omega) (by omega) rfl (by omega) VLe.nil)) ?_
        · show [AV.rs (subs _ (ints L)) (0 + Int.toNat (IntKind.i64.wrap (IntKind.i64.wrap (IntKind.i64.wrap (1 + (arbW L : Int)) + (ctrlW L : Int)) - 4)) * 1) 1 (Int.toNat (IntKind.i64.wrap (IntKind.i64.wrap (1 + (arbW L : Int)) + (ctrlW L : Int))) - Int.toNat (IntKind.i64.wrap (IntKind.i64.wrap (IntKind.i64.wrap (1 + (arbW L : Int)) + (ctrlW L : Int)) - 4)))] = _
          rw [subs_nums, hat4, hatw, Int.toNat_natCast, Int.toNat_natCast, show 0 + (dataAt L - 4) * 1 = dataAt L - 4 from by omega, show dataAt L - (dataAt L - 4) = 4 from by omega]
        rintro r H ⟨rfl, rfl⟩
        refine ⟨.inl rfl, [.c Fr0.cells, .c (ints [1, (arbW L : Int), (ctrlW L : Int), ((aheadN L - dataAt L : Nat) : Int), 15, 1, 1, 1, 7]), .c (frC L (idL L) (L.getD 32 0 == 1) 0 0)], rfl, ?_⟩
        conv => whnf
        refine ⟨by show 0 + 3 + 1 ≤ 12; omega, ?_⟩
        conv => whnf
        have hsz : sizeL L = min (valI (cut L (dataAt L - 4) (dataAt L))).toNat 8 := rfl
        generalize hV : valI (cut L (dataAt L - 4) (dataAt L)) = v at hv4 hsz
        by_cases h8 : v > 8
        · have hs8 : ((sizeL L : Nat) : Int) = 8 := by omega
          refine acond_t (decide_eq_true h8) ?_
          conv => whnf
          refine ⟨by show 0 + 3 + 1 ≤ 12; omega, ?_⟩
          conv => whnf
          refine ALoop.ind (ip := false) tok (fun m r H => ∃ (k : Nat), k ≤ nB L ∧ m = nB L - k ∧ H = [.c Fr0.cells, .c (ints [1, (arbW L : Int), (ctrlW L : Int), ((aheadN L - dataAt L : Nat) : Int), 15, 1, 1, 1, 7]), .c (frC L (idL L) (L.getD 32 0 == 1) 8 k)] ∧
            r = [(8, .i .i64 k), (7, .i .i64 (dataAt L)), (0, .rs (ints L) 0 1 L.length), (2, .p (some (0, 0))), (5, .sl (some (1, 0)) 1 9 9), (6, .p (some (2, 0)))]) (nB L) ?_ ?_
          · refine Gh.regs [8, 7, 0, 2, 5, 6] (Gh.of ⟨0, by omega, rfl, ?_, ?_⟩)
            · rfl
            · rw [hatw]; rfl
          · rintro m r H ⟨k, hk, rfl, rfl, rfl⟩
            conv => whnf
            refine ⟨by omega, ?_⟩
            conv => whnf
            refine ⟨by omega, ?_⟩
            conv => whnf
            by_cases h : (k : Int) < nB L
            · have hkn : k < nB L := by omega
              have hbt := byteL_in hl k
              refine acond_t (decide_eq_true (by rw [hq]; exact h)) ?_
              conv => whnf
              have e1 : IntKind.i64.wrap ((dataAt L : Int) + IntKind.i64.wrap (8 * (k : Int))) = ((dataAt L + 8 * k : Nat) : Int) := by
                rw [w64 (x := 8 * (k : Int)) (by omega) (by omega), w64 (by omega) (by omega)]; omega
              have e2 : IntKind.i64.wrap (IntKind.i64.wrap ((dataAt L : Int) + IntKind.i64.wrap (8 * (k : Int))) + 8) = ((dataAt L + 8 * k + 8 : Nat) : Int) := by
                rw [e1, w64 (by omega) (by omega)]; omega
              refine ⟨⟨by rw [e1]; omega, by rw [e2, e1]; omega, by rw [e2]; omega⟩, ?_⟩
              conv => whnf
              refine ACall.frameH [] [] rfl (args' := [.rs (ints L) (dataAt L + 8 * k) 1 8]) (Hc := []) ?_ rfl
                (ACall.args (rvalue_spec (cut L (dataAt L + 8 * k) (dataAt L + 8 * k + 8)) (by rw [cut_length _ _ _ (by omega)]; omega) (cut_lv hl _ _)) (VLe.cut (a := dataAt L + 8 * k) (b := dataAt L + 8 * k + 8) (by omega) (by omega) rfl (by omega) VLe.nil)) ?_
              · show [AV.rs (subs _ (ints L)) (0 + Int.toNat (IntKind.i64.wrap ((dataAt L : Int) + IntKind.i64.wrap (8 * (k : Int)))) * 1) 1 (Int.toNat (IntKind.i64.wrap (IntKind.i64.wrap ((dataAt L : Int) + IntKind.i64.wrap (8 * (k : Int))) + 8)) - Int.toNat (IntKind.i64.wrap ((dataAt L : Int) + IntKind.i64.wrap (8 * (k : Int)))))] = _
                rw [subs_nums, e2, e1, Int.toNat_natCast, Int.toNat_natCast, show 0 + (dataAt L + 8 * k) * 1 = dataAt L + 8 * k from by omega, show dataAt L + 8 * k + 8 - (dataAt L + 8 * k) = 8 from by omega]
              rintro r H ⟨rfl, rfl⟩
              refine ⟨.inl rfl, [.c Fr0.cells, .c (ints [1, (arbW L : Int), (ctrlW L : Int), ((aheadN L - dataAt L : Nat) : Int), 15, 1, 1, 1, 7]), .c (frC L (idL L) (L.getD 32 0 == 1) 8 k)], rfl, ?_⟩
              conv => whnf
              refine ⟨⟨by omega, by omega⟩, ?_⟩
              conv => whnf
              refine ⟨by show 0 + 4 + (k : Int).toNat * 1 + 1 ≤ 12; omega, ?_⟩
              conv => whnf
              refine Gh.regs [8, 7, 0, 2, 5, 6] (Gh.of ⟨nB L - (k + 1), by omega, k + 1, by omega, rfl, ?_, ?_⟩)
              · show [_, _, Blk.c (setCells (frC L (idL L) (L.getD 32 0 == 1) 8 k) (0 + 4 + (k : Int).toNat * 1) [.i .u8 (IntKind.u8.wrap (byteL L k))])] = _
                rw [show IntKind.u8.wrap (byteL L k) = byteL L k from by rw [IntKind.wrap_u8]; omega, frC_set L _ _ _ (by omega) (by omega)]
              · rw [w64 (by omega) (by omega)]; rfl
            · refine acond_f (decide_eq_false (by rw [hq]; exact h)) ?_
              conv => whnf
              have hk2 : k = nB L := by omega
              refine ⟨by show 0 + 12 ≤ 12; omega, ?_⟩
              conv => whnf
              refine GhR.sel [] rfl (GhR.of ⟨?_, rfl⟩)
              rw [hk2]
              unfold frL
              rw [hs8, hrt]
              rfl
        · have hs8 : ((sizeL L : Nat) : Int) = v := by omega
          refine acond_f (decide_eq_false h8) ?_
          conv => whnf
          refine ALoop.ind (ip := false) tok (fun m r H => ∃ (k : Nat), k ≤ nB L ∧ m = nB L - k ∧ H = [.c Fr0.cells, .c (ints [1, (arbW L : Int), (ctrlW L : Int), ((aheadN L - dataAt L : Nat) : Int), 15, 1, 1, 1, 7]), .c (frC L (idL L) (L.getD 32 0 == 1) v k)] ∧
            r = [(8, .i .i64 k), (7, .i .i64 (dataAt L)), (0, .rs (ints L) 0 1 L.length), (2, .p (some (0, 0))), (5, .sl (some (1, 0)) 1 9 9), (6, .p (some (2, 0)))]) (nB L) ?_ ?_
          · refine Gh.regs [8, 7, 0, 2, 5, 6] (Gh.of ⟨0, by omega, rfl, ?_, ?_⟩)
            · rfl
            · rw [hatw]; rfl
          · rintro m r H ⟨k, hk, rfl, rfl, rfl⟩
            conv => whnf
            refine ⟨by omega, ?_⟩
            conv => whnf
            refine ⟨by omega, ?_⟩
            conv => whnf
            by_cases h : (k : Int) < nB L
            · have hkn : k < nB L := by omega
              have hbt := byteL_in hl k
              refine acond_t (decide_eq_true (by rw [hq]; exact h)) ?_
              conv => whnf
              have e1 : IntKind.i64.wrap ((dataAt L : Int) + IntKind.i64.wrap (8 * (k : Int))) = ((dataAt L + 8 * k : Nat) : Int) := by
                rw [w64 (x := 8 * (k : Int)) (by omega) (by omega), w64 (by omega) (by omega)]; omega
              have e2 : IntKind.i64.wrap (IntKind.i64.wrap ((dataAt L : Int) + IntKind.i64.wrap (8 * (k : Int))) + 8) = ((dataAt L + 8 * k + 8 : Nat) : Int) := by
                rw [e1, w64 (by omega) (by omega)]; omega
              refine ⟨⟨by rw [e1]; omega, by rw [e2, e1]; omega, by rw [e2]; omega⟩, ?_⟩
              conv => whnf
              refine ACall.frameH [] [] rfl (args' := [.rs (ints L) (dataAt L + 8 * k) 1 8]) (Hc := []) ?_ rfl
                (ACall.args (rvalue_spec (cut L (dataAt L + 8 * k) (dataAt L + 8 * k + 8)) (by rw [cut_length _ _ _ (by omega)]; omega) (cut_lv hl _ _)) (VLe.cut (a := dataAt L + 8 * k) (b := dataAt L + 8 * k + 8) (by omega) (by omega) rfl (by omega) VLe.nil)) ?_
              · show [AV.rs (subs _ (ints L)) (0 + Int.toNat (IntKind.i64.wrap ((dataAt L : Int) + IntKind.i64.wrap (8 * (k : Int)))) * 1) 1 (Int.toNat (IntKind.i64.wrap (IntKind.i64.wrap ((dataAt L : Int) + IntKind.i64.wrap (8 * (k : Int))) + 8)) - Int.toNat (IntKind.i64.wrap ((dataAt L : Int) + IntKind.i64.wrap (8 * (k : Int)))))] = _
                rw [subs_nums, e2, e1, Int.toNat_natCast, Int.toNat_natCast, show 0 + (dataAt L + 8 * k) * 1 = dataAt L + 8 * k from by omega, show dataAt L + 8 * k + 8 - (dataAt L + 8 * k) = 8 from by omega]
              rintro r H ⟨rfl, rfl⟩
              refine ⟨.inl rfl, [.c Fr0.cells, .c (ints [1, (arbW L : Int), (ctrlW L : Int), ((aheadN L - dataAt L : Nat) : Int), 15, 1, 1, 1, 7]), .c (frC L (idL L) (L.getD 32 0 == 1) v k)], rfl, ?_⟩
              conv => whnf
              refine ⟨⟨by omega, by omega⟩, ?_⟩
              conv => whnf
              refine ⟨by show 0 + 4 + (k : Int).toNat * 1 + 1 ≤ 12; omega, ?_⟩
              conv => whnf
              refine Gh.regs [8, 7, 0, 2, 5, 6] (Gh.of ⟨nB L - (k + 1), by omega, k + 1, by omega, rfl, ?_, ?_⟩)
              · show [_, _, Blk.c (setCells (frC L (idL L) (L.getD 32 0 == 1) v k) (0 + 4 + (k : Int).toNat * 1) [.i .u8 (IntKind.u8.wrap (byteL L k))])] = _
                rw [show IntKind.u8.wrap (byteL L k) = byteL L k from by rw [IntKind.wrap_u8]; omega, frC_set L _ _ _ (by omega) (by omega)]
              · rw [w64 (by omega) (by omega)]; rfl
            · refine acond_f (decide_eq_false (by rw [hq]; exact h)) ?_
              conv => whnf
              have hk2 : k = nB L := by omega
              refine ⟨by show 0 + 12 ≤ 12; omega, ?_⟩
              conv => whnf
              refine GhR.sel [] rfl (GhR.of ⟨?_, rfl⟩)
              rw [hk2]
              unfold frL
              rw [hs8, hrt]
              rfl
end Go.AK
namespace Go.AK
open Go Go.RowKit Go.Proofs
set_option linter.unusedVariables false
set_option maxRecDepth 100000
theorem lvP_next : ∀ {L : List Int}, (lvP L).length < L.length → L[(lvP L).length]? = some (L.getD (lvP L).length 0) ∧ ¬ (L.getD (lvP L).length 0 = 0 ∨ L.getD (lvP L).length 0 = 1)
  | [], h => by simp [lvP] at h
  | x :: l, h => by
    refine ⟨get_gd h, ?_⟩
    unfold lvP at h ⊢
    by_cases c : x = 0 ∨ x = 1
    · rw [if_pos c] at h ⊢
      rw [List.length_cons, List.getD_cons_succ]
      exact (lvP_next (by simpa using h)).2
    · rw [if_neg c]
      exact c
theorem kn_five_len {raw : List Int} (h : kn raw = 5) : raw.length = aheadN raw + 15 := by
  obtain ⟨hw, hl⟩ := kn_five h
  have := kn_high (aheadN raw) hw rfl hl
  rw [this] at h
  by_cases e : raw.length < aheadN raw + 16
  · omega
  · rw [if_neg e] at h
    repeat' split at h
    all_goals omega
theorem kn_whole {raw : List Int} (h : 5 ≤ kn raw) : whole raw = true ∧ aheadN raw + 15 ≤ raw.length := by
  unfold kn at h
  split at h
  · omega
  split at h
  · omega
  split at h
  · omega
  rename_i hw
  split at h
  · omega
  split at h
  · omega
  exact ⟨by simpa using hw, by omega⟩
theorem kn_high6 {raw : List Int} {x : Int} (h : 5 ≤ kn raw) (h9 : kn (raw ++ [x]) ≠ 9) (h0 : 0 ≤ kn (raw ++ [x])) : 6 ≤ kn (raw ++ [x]) := by
  obtain ⟨hw, hl⟩ := kn_whole h
  have h1 := ahead_app [x] hw
  have h2 := whole_app [x] hw
  have hll : (raw ++ [x]).length = raw.length + 1 := by rw [List.length_append]; rfl
  have hk := kn_high (aheadN raw) h2 h1 (by rw [hll]; omega)
  rw [hll, if_neg (by omega)] at hk
  by_cases e : raw.length + 1 < aheadN raw + 25
  · rw [hk]
    repeat' split
    all_goals omega
  · rw [if_neg (by omega), if_neg (by omega), if_neg e] at hk
    by_cases e2 : raw.length + 1 = aheadN raw + 25
    · rw [if_pos e2] at hk; omega
    · rw [if_neg e2] at hk; omega
theorem kn_low5 {raw : List Int} (x : Int) (h : kn raw ≤ 4) (h0 : 0 ≤ kn raw) : kn (raw ++ [x]) ≤ 5 := by
  by_cases hc : kn (raw ++ [x]) ≤ 5
  · exact hc
  · exfalso
    obtain ⟨hw, hl⟩ := kn_whole (raw := raw ++ [x]) (by omega)
    have hll : (raw ++ [x]).length = raw.length + 1 := by rw [List.length_append]; rfl
    have hb := aheadN_le (raw ++ [x])
    have h16 : aheadN (raw ++ [x]) + 16 ≤ (raw ++ [x]).length := by
      by_cases e : aheadN (raw ++ [x]) + 16 ≤ (raw ++ [x]).length
      · exact e
      · have := kn_high (aheadN (raw ++ [x])) hw rfl hl
        rw [if_pos (by omega)] at this
        omega
    by_cases c : whole raw = true
    · rw [ahead_app [x] c, hll] at h16
      have := kn_high (aheadN raw) c rfl (by omega)
      rw [this] at h h0
      repeat' split at h
      all_goals first | omega | skip
      all_goals
        repeat' split at h0
        all_goals omega
    · have c2 : ¬ (13 < raw.length ∧ dataAt raw ≤ raw.length) := fun e => c (decide_eq_true e)
      by_cases e : 13 < raw.length
      · rw [data_app e] at hb
        omega
      · omega
set_option maxHeartbeats 40000000 in
theorem rdecode_spec (L : List Int) (hL : L.length < 1000000) : ACall Try.prog 11 [.rs (ints L) 0 1 L.length] [] fun r H => r = .ret (.tup [(dec L).1.av, .i .i64 (dec L).2.1, .i .i64 (dec L).2.2]) ∧ H = [] := by
  refine ACall.gh ?_
  refine ACall.enter tok false Try.func11 rfl rfl rfl (AW_sound (ip := false) tok _ _ _ _ ?_)
  have hle := lvP_le L
  have fin : ∀ (F : Fr) (n e : Int) (H : Heap), dec L = (F, n, e) → GhR 0 (fun r H => r = ARes.ret (.tup [(dec L).1.av, .i .i64 (dec L).2.1, .i .i64 (dec L).2.2]) ∧ H = []) (.ret (.tup [F.av, .i .i64 n, .i .i64 e])) H := by
    rintro F n e H hd
    exact GhR.sel [] rfl (GhR.of ⟨by rw [hd]; rfl, rfl⟩)
  obtain ⟨fe, hfe⟩ : ∃ fe : Int, fe = if (lvP L).length < L.length then 10 else 13 := ⟨_, rfl⟩
  have hd0 : dec L = decG fe (lvP L) 0 [] 0 0 := by rw [hfe]; rfl
  conv => whnf
  refine ⟨by show 0 + 12 ≤ 12; omega, ?_⟩
  conv => whnf
  refine ALoop.ind (ip := false) tok (fun m r H => ∃ (i : Nat) (raw : List Int) (last run : Int), i ≤ (lvP L).length ∧ m = L.length - i ∧ decG fe ((lvP L).drop i) i raw last run = dec L ∧ RdOk raw run ∧ raw.length ≤ i ∧
    ((raw = [] ∧ i = 0 ∧ last = 0 ∧ run = 0 ∧ H = [.c Fr0.cells, .c Fr0.cells] ∧ r = [(8, .i .i64 i), (7, .i .i64 0), (6, .sl none 0 0 0), (5, .p (some (1, 0))), (2, .p (some (0, 0))), (0, .rs (ints L) 0 1 L.length)]) ∨
     (raw ≠ [] ∧ 0 < i ∧ ((1 ≤ run ∧ kn raw ≤ 5 ∧ L[i - 1]? = some last) ∨ (run = 0 ∧ 6 ≤ kn raw)) ∧ ∃ c, raw.length ≤ c ∧ H = [.c Fr0.cells, .c Fr0.cells, .c (ints raw)] ∧
       r = [(8, .i .i64 i), (7, .i .i64 run), (6, .sl (some (2, 0)) 1 raw.length c), (5, .p (some (1, 0))), (2, .p (some (0, 0))), (0, .rs (ints L) 0 1 L.length)]))) L.length ?_ ?_
  · exact Gh.regs [8, 7, 6, 5, 2, 0] (Gh.of ⟨0, [], 0, 0, by omega, by omega, hd0.symm, ⟨isLv_nil, by rw [kn_nil]; omega, by rw [kn_nil]; omega, by omega, rfl, fun _ => rfl⟩, by simp, .inl ⟨rfl, rfl, rfl, rfl, rfl, rfl⟩⟩)
  · rintro m r H ⟨i, raw, last, run, hi, rfl, hdec, hok, hri, hst⟩
    have hrn := hok.rn
    by_cases h : (i : Int) < L.length
    · by_cases hil : i < (lvP L).length
      · have hget : L[i]? = some (lvP L)[i] := by
          rw [← List.getElem?_eq_getElem hil]
          conv => rhs; rw [← lvP_take L]
          rw [List.getElem?_take_of_lt hil]
        have hx := lvP_lv L _ (List.getElem_mem hil)
        rw [List.drop_eq_getElem_cons hil] at hdec
        generalize hX : (lvP L)[i] = x at hget hx hdec
        have hnx : decG fe (x :: (lvP L).drop (i + 1)) i raw last run = (if (stp raw last run x).1 ≠ 0 then (Fr0, (i : Int), (stp raw last run x).1)
          else if kn (stp raw last run x).2.1 = 9 then (frL (stp raw last run x).2.1, (i : Int) + 1, 0)
          else decG fe ((lvP L).drop (i + 1)) ((i : Int) + 1) (stp raw last run x).2.1 (stp raw last run x).2.2.1 (stp raw last run x).2.2.2) := rfl
        have hstp := stp_ok (last := last) hok hx
        generalize hS : stp raw last run x = S at hnx hstp
        rcases hst with ⟨hz, hi0, hl0, hr0, rfl, rfl⟩ | ⟨hne, hi0, hph, c, hc, rfl, rfl⟩
        · have hig : decide ((i : Int) > 0) = false := decide_eq_false (by omega)
          have hk0 : kn raw = 0 := by rw [hz]; exact kn_nil
          have h4 : kn raw ≤ 4 := by omega
          have hr5 : ¬ run = 5 := by omega
          conv => whnf
          refine acond_t (decide_eq_true h) ?_
          conv => whnf
          refine ⟨⟨by omega, h⟩, ?_⟩
          conv => whnf
          refine aget_num (i := i) (by omega) hget ?_
          conv => whnf
          by_cases hx0 : x = 0
          · have hb0 : (x != 0) = false := bne_eq_false_iff_eq.2 hx0
            repeat (refine acond_f hb0 ?_; conv => whnf)
            have hi0b : ((i : Int) == 0) = true := beq_iff_eq.2 (by omega)
            repeat (refine acond_t hi0b ?_; conv => whnf)
            refine ⟨⟨by omega, by omega⟩, ?_⟩
            conv => whnf
            repeat (refine acond_t hi0b ?_; conv => whnf)
            refine aget_num (i := i) (by omega) hget ?_
            conv => whnf
            repeat (refine acond_t hi0b ?_; conv => whnf)
            refine acond_f (beq_eq_false_iff_ne.2 (by omega)) ?_
            conv => whnf
            have hnxt := rnext_spec [] isLv_nil (by simp)
            rw [show kn [] = kn raw from by rw [hz]] at hnxt
            refine ACall.frameH [] [] rfl (args' := [.sl none 0 0 0]) (Hc := []) rfl rfl (ACall.args hnxt (VLe.nilsl VLe.nil)) ?_
            rintro r H ⟨⟨j, rfl⟩, rfl⟩
            refine ⟨.inl rfl, [.c Fr0.cells, .c Fr0.cells], rfl, ?_⟩
            conv => whnf
            refine acond_t (decide_eq_true h4) ?_
            conv => whnf
            have hs0 : ¬ (kn raw = 0 ∧ x = 1) := fun e => by omega
            refine ADraw.of tok mixed false [0, 1, 2, 3, 4, 5, 6, 7, 8, 9, 10, 11, 12, 13] [] (by kernel_rfl) (fun _ _ _ _ h => h) ?_
            conv => whnf
            repeat (refine acond_f hig ?_; conv => whnf)
            refine ⟨⟨by omega, by omega⟩, ?_⟩
            conv => whnf
            refine aget_num (i := i) (by omega) hget ?_
            conv => whnf
            refine ⟨by show 1 ≤ (1 : Nat); omega, ?_⟩
            conv => whnf
            refine ⟨rfl, by (try dsimp only); omega, by omega, fun g hg => ?_⟩
            conv => whnf
            have hSok : S = (0, raw ++ [x], x, 1) := by rw [← hS]; unfold stp; rw [if_neg hr5, if_neg hs0, if_pos h4, if_neg (fun e => by omega)]
            have hst0 : S.1 = 0 := by rw [hSok]
            obtain ⟨o1, o2, o3, o4, o5, o6⟩ := hstp hst0
            rw [hSok] at o1 o2 o3 o4 o5 o6
            dsimp only at o1 o2 o3 o4 o5 o6
            have hk5 := kn_low5 x h4 hok.kn0
            have hrl : (raw ++ [x]).length = raw.length + 1 := by rw [List.length_append]; rfl
            refine Gh.regs [8, 7, 6, 5, 2, 0] (Gh.sel [0, 1, 3] rfl (Gh.of ⟨L.length - (i + 1), by omega, i + 1, raw ++ [x], x, 1, by omega, rfl, ?_, ⟨o1, o2, by omega, o3, o4, fun e => absurd e o6⟩, by omega, .inr ⟨o6, by omega, .inl ⟨by omega, hk5, by rw [Nat.add_sub_cancel]; exact hget⟩, g, by rw [hrl]; rw [hz]; exact hg, ?_, ?_⟩⟩))
            · rw [← hdec, hnx, if_neg (fun e => e hst0), hSok, if_neg (by show ¬ kn (raw ++ [x]) = 9; omega)]; rfl
            · show [_, _, Blk.c (subs _ (ints [x]))] = _
              rw [subs_nums, hz]; rfl
            · refine keep_eq (show keepR _ _ = [_, _, _, _, _, _] from rfl) ?_
              simp only [subG, sub, subs_nums]
              rw [w64 (x := (i : Int) + 1) (by omega) (by omega), hrl]; rw [hz]; rfl
          · have hx1 : x = 1 := by omega
            have hb0 : (x != 0) = true := bne_iff_ne.2 hx0
            have hb1 : (x != 1) = false := bne_eq_false_iff_eq.2 hx1
            repeat (refine acond_t hb0 ?_; conv => whnf)
            refine ⟨⟨by omega, by omega⟩, ?_⟩
            conv => whnf
            repeat (refine acond_t hb0 ?_; conv => whnf)
            refine aget_num (i := i) (by omega) hget ?_
            conv => whnf
            repeat (refine acond_t hb0 ?_; conv => whnf)
            repeat (refine acond_f hb1 ?_; conv => whnf)
            have hi0b : ((i : Int) == 0) = true := beq_iff_eq.2 (by omega)
            repeat (refine acond_t hi0b ?_; conv => whnf)
            refine ⟨⟨by omega, by omega⟩, ?_⟩
            conv => whnf
            repeat (refine acond_t hi0b ?_; conv => whnf)
            refine aget_num (i := i) (by omega) hget ?_
            conv => whnf
            repeat (refine acond_t hi0b ?_; conv => whnf)
            refine acond_t (beq_iff_eq.2 hx1) ?_
            conv => whnf
            refine ⟨by show 0 + 12 ≤ 12; omega, ?_⟩
            conv => whnf
            have hSe : S = (11, raw, last, run) := by rw [← hS]; unfold stp; rw [if_neg hr5, if_pos ⟨hk0, hx1⟩]
            refine fin Fr0 0 11 _ ?_
            rw [← hdec, hnx, hSe, if_pos (by show (11 : Int) ≠ 0; omega), hi0]; rfl
        · have hig : decide ((i : Int) > 0) = true := decide_eq_true (by omega)
          have hw1 : IntKind.i64.wrap ((i : Int) - 1) = ((i - 1 : Nat) : Int) := by rw [w64 (by omega) (by omega)]; omega
          conv => whnf
          refine acond_t (decide_eq_true h) ?_
          conv => whnf
          refine ⟨⟨by omega, h⟩, ?_⟩
          conv => whnf
          refine aget_num (i := i) (by omega) hget ?_
          conv => whnf
          by_cases hx0 : x = 0
          · have hb0 : (x != 0) = false := bne_eq_false_iff_eq.2 hx0
            repeat (refine acond_f hb0 ?_; conv => whnf)
            have hi0b : ((i : Int) == 0) = false := beq_eq_false_iff_ne.2 (by omega)
            repeat (refine acond_f hi0b ?_; conv => whnf)
            refine ACall.frameH [] [2] rfl (args' := [.rs (ints raw) 0 1 raw.length]) (Hc := []) (by show [AV.rs (subs _ (ints _)) _ _ _] = _; first | (rw [subs_nums]; done) | (rw [subs_nums]; rfl)) rfl (rnext_spec raw hok.lv (by omega)) ?_
            rintro r H ⟨⟨j, rfl⟩, rfl⟩
            refine ⟨.inr ⟨rfl, rfl⟩, [.c Fr0.cells, .c Fr0.cells, .c (ints raw)], rfl, ?_⟩
            conv => whnf
            by_cases hr5 : run = 5
            · obtain ⟨hr1, hk5, hlast⟩ := hph.resolve_right (fun e => by omega)
              refine acond_t (beq_iff_eq.2 hr5) ?_
              conv => whnf
              refine ADraw.of tok mixed false [0, 1, 2, 3, 4, 5, 6, 7, 8, 9] [] (by kernel_rfl) (fun _ _ _ _ h => h) ?_
              conv => whnf
              refine ⟨⟨by omega, by omega⟩, ?_⟩
              conv => whnf
              refine aget_num (i := i) (by omega) hget ?_
              conv => whnf
              refine ⟨⟨by rw [hw1]; omega, by rw [hw1]; omega⟩, ?_⟩
              conv => whnf
              refine aget_num (i := i - 1) (by rw [hw1]; omega) hlast ?_
              conv => whnf
              by_cases hxl : x = last
              · refine acond_t (beq_iff_eq.2 hxl) ?_
                conv => whnf
                refine ⟨by show 0 + 12 ≤ 12; omega, ?_⟩
                conv => whnf
                have hSe : S = (17, raw, last, run) := by rw [← hS]; unfold stp; rw [if_pos hr5, if_pos hxl]
                refine fin Fr0 (i : Int) 17 _ ?_
                rw [← hdec, hnx, hSe, if_pos (by show (17 : Int) ≠ 0; omega)]
              · refine acond_f (beq_eq_false_iff_ne.2 hxl) ?_
                conv => whnf
                have hSok : S = (0, raw, x, 1) := by rw [← hS]; unfold stp; rw [if_pos hr5, if_neg hxl]
                refine Gh.regs [8, 7, 6, 5, 2, 0] (Gh.of ⟨L.length - (i + 1), by omega, i + 1, raw, x, 1, by omega, rfl, ?_, ⟨hok.lv, hok.kn0, hok.kn9, by omega, hok.first, fun e => absurd e hne⟩, by omega, .inr ⟨hne, by omega, .inl ⟨by omega, hk5, by rw [Nat.add_sub_cancel]; exact hget⟩, c, hc, rfl, ?_⟩⟩)
                · rw [← hdec, hnx, hSok, if_neg (fun e => e rfl), if_neg hok.kn9]; rfl
                · rw [w64 (by omega) (by omega)]; rfl
            · refine acond_f (beq_eq_false_iff_ne.2 hr5) ?_
              conv => whnf
              have hs0 : ¬ (kn raw = 0 ∧ x = 1) := fun e => by have := kn_pos hne hok.kn0; omega
              by_cases h4 : kn raw ≤ 4
              · obtain ⟨hr1, hk5, hlast⟩ := hph.resolve_right (fun e => by omega)
                refine acond_t (decide_eq_true h4) ?_
                conv => whnf
                refine ADraw.of tok mixed false [0, 1, 2, 3, 4, 5, 6, 7, 8, 9, 10, 11, 12, 13] [] (by kernel_rfl) (fun _ _ _ _ h => h) ?_
                conv => whnf
                repeat (refine acond_t hig ?_; conv => whnf)
                refine ⟨⟨by omega, by omega⟩, ?_⟩
                conv => whnf
                repeat (refine acond_t hig ?_; conv => whnf)
                refine aget_num (i := i) (by omega) hget ?_
                conv => whnf
                repeat (refine acond_t hig ?_; conv => whnf)
                refine ⟨⟨by rw [hw1]; omega, by rw [hw1]; omega⟩, ?_⟩
                conv => whnf
                repeat (refine acond_t hig ?_; conv => whnf)
                refine aget_num (i := i - 1) (by rw [hw1]; omega) hlast ?_
                conv => whnf
                repeat (refine acond_t hig ?_; conv => whnf)
                by_cases hxl : x = last
                · refine acond_t (beq_iff_eq.2 hxl) ?_
                  conv => whnf
                  refine ⟨⟨by omega, by omega⟩, ?_⟩
                  conv => whnf
                  refine aget_num (i := i) (by omega) hget ?_
                  conv => whnf
                  refine ⟨by show 0 + raw.length * 1 ≤ (ints raw).length; rw [nums_length]; omega, ?_⟩
                  conv => whnf
                  refine ⟨by show 1 ≤ (1 : Nat); omega, ?_⟩
                  conv => whnf
                  refine ⟨rfl, by (try dsimp only); omega, by omega, fun g hg => ?_⟩
                  conv => whnf
                  have hSok : S = (0, raw ++ [x], x, (run + 1)) := by rw [← hS]; unfold stp; rw [if_neg hr5, if_neg hs0, if_pos h4, if_pos ⟨by omega, hxl⟩]
                  have hst0 : S.1 = 0 := by rw [hSok]
                  obtain ⟨o1, o2, o3, o4, o5, o6⟩ := hstp hst0
                  rw [hSok] at o1 o2 o3 o4 o5 o6
                  dsimp only at o1 o2 o3 o4 o5 o6
                  have hk5 := kn_low5 x h4 hok.kn0
                  have hrl : (raw ++ [x]).length = raw.length + 1 := by rw [List.length_append]; rfl
                  refine Gh.regs [8, 7, 6, 5, 2, 0] (Gh.sel [0, 1, 4] rfl (Gh.of ⟨L.length - (i + 1), by omega, i + 1, raw ++ [x], x, (run + 1), by omega, rfl, ?_, ⟨o1, o2, by omega, o3, o4, fun e => absurd e o6⟩, by omega, .inr ⟨o6, by omega, .inl ⟨by omega, hk5, by rw [Nat.add_sub_cancel]; exact hget⟩, g, by rw [hrl]; exact hg, ?_, ?_⟩⟩))
                  · rw [← hdec, hnx, if_neg (fun e => e hst0), hSok, if_neg (by show ¬ kn (raw ++ [x]) = 9; omega)]; rfl
                  · show [_, _, Blk.c (subs _ (List.take (raw.length * 1) (List.drop 0 (ints raw)) ++ ints [x]))] = _
                    rw [List.drop_zero, Nat.mul_one, List.take_of_length_le (by rw [nums_length]; omega), ← nums_append, subs_nums]; rfl
                  · refine keep_eq (show keepR _ _ = [_, _, _, _, _, _] from rfl) ?_
                    simp only [subG, sub, subs_nums]
                    rw [w64 (x := (i : Int) + 1) (by omega) (by omega), w64 (by omega) (by omega), hrl]; rfl
                · refine acond_f (beq_eq_false_iff_ne.2 hxl) ?_
                  conv => whnf
                  refine ⟨⟨by omega, by omega⟩, ?_⟩
                  conv => whnf
                  refine aget_num (i := i) (by omega) hget ?_
                  conv => whnf
                  refine ⟨by show 0 + raw.length * 1 ≤ (ints raw).length; rw [nums_length]; omega, ?_⟩
                  conv => whnf
                  refine ⟨by show 1 ≤ (1 : Nat); omega, ?_⟩
                  conv => whnf
                  refine ⟨rfl, by (try dsimp only); omega, by omega, fun g hg => ?_⟩
                  conv => whnf
                  have hSok : S = (0, raw ++ [x], x, 1) := by rw [← hS]; unfold stp; rw [if_neg hr5, if_neg hs0, if_pos h4, if_neg (fun e => hxl e.2)]
                  have hst0 : S.1 = 0 := by rw [hSok]
                  obtain ⟨o1, o2, o3, o4, o5, o6⟩ := hstp hst0
                  rw [hSok] at o1 o2 o3 o4 o5 o6
                  dsimp only at o1 o2 o3 o4 o5 o6
                  have hk5 := kn_low5 x h4 hok.kn0
                  have hrl : (raw ++ [x]).length = raw.length + 1 := by rw [List.length_append]; rfl
                  refine Gh.regs [8, 7, 6, 5, 2, 0] (Gh.sel [0, 1, 4] rfl (Gh.of ⟨L.length - (i + 1), by omega, i + 1, raw ++ [x], x, 1, by omega, rfl, ?_, ⟨o1, o2, by omega, o3, o4, fun e => absurd e o6⟩, by omega, .inr ⟨o6, by omega, .inl ⟨by omega, hk5, by rw [Nat.add_sub_cancel]; exact hget⟩, g, by rw [hrl]; exact hg, ?_, ?_⟩⟩))
                  · rw [← hdec, hnx, if_neg (fun e => e hst0), hSok, if_neg (by show ¬ kn (raw ++ [x]) = 9; omega)]; rfl
                  · show [_, _, Blk.c (subs _ (List.take (raw.length * 1) (List.drop 0 (ints raw)) ++ ints [x]))] = _
                    rw [List.drop_zero, Nat.mul_one, List.take_of_length_le (by rw [nums_length]; omega), ← nums_append, subs_nums]; rfl
                  · refine keep_eq (show keepR _ _ = [_, _, _, _, _, _] from rfl) ?_
                    simp only [subG, sub, subs_nums]
                    rw [w64 (x := (i : Int) + 1) (by omega) (by omega), hrl]; rfl
              · refine acond_f (decide_eq_false h4) ?_
                conv => whnf
                have hk5 : 5 ≤ kn raw := by omega
                by_cases h5 : kn raw = 5
                · obtain ⟨hw, hlen⟩ := kn_five h5
                  have hlen2 : raw.length = aheadN raw + 15 := kn_five_len h5
                  have hb := aheadN_le raw
                  refine acond_t (beq_iff_eq.2 h5) ?_
                  conv => whnf
                  refine ACall.frameH [] [2] rfl (args' := [.rs (ints raw) 0 1 raw.length]) (Hc := []) (by show [AV.rs (subs _ (ints _)) _ _ _] = _; first | (rw [subs_nums]; done) | (rw [subs_nums]; rfl)) rfl (rahead_spec raw hok.lv (by omega) hw) ?_
                  rintro r H ⟨rfl, rfl⟩
                  refine ⟨.inr ⟨rfl, rfl⟩, [.c Fr0.cells, .c Fr0.cells, .c (ints raw)], rfl, ?_⟩
                  conv => whnf
                  refine ⟨by omega, ?_⟩
                  conv => whnf
                  have hcut : cut raw 0 (aheadN raw) = raw.take (aheadN raw) := List.drop_zero
                  have hsum := rsum_spec (cut raw 0 (aheadN raw)) (cut_lv hok.lv _ _) (by rw [cut_length _ _ _ (by omega)]; omega)
                  rw [hcut] at hsum
                  have hv := VLe.cut (L := raw) (a := 0) (b := aheadN raw) (o := 0) (n := aheadN raw) (by omega) (by omega) rfl rfl VLe.nil
                  rw [hcut] at hv
                  refine ACall.frameH [] [2] rfl (args' := [.rs (ints raw) 0 1 (aheadN raw)]) (Hc := []) (by show [AV.rs (subs _ (ints _)) _ _ _] = _; first | (rw [subs_nums]; done) | (rw [subs_nums]; rfl)) rfl (ACall.args hsum hv) ?_
                  have hrbe : rightB (raw.take (aheadN raw + 15)) = decide (raw.drop (aheadN raw) = ofI (crcN (raw.take (aheadN raw)) : Nat) 15) := by
                    rw [List.take_of_length_le (by omega)]
                    unfold rightB
                    rw [decide_eq_true (by omega : 15 ≤ raw.length), Bool.true_and, show raw.length - 15 = aheadN raw from by omega]
                  generalize hwant : ofI (crcN (raw.take (aheadN raw)) : Nat) 15 = want at hrbe
                  have hwl : want.length = 15 := by rw [← hwant]; exact ofI_length _ _
                  have hdl : (raw.drop (aheadN raw)).length = 15 := by rw [List.length_drop]; omega
                  have hdg : ∀ k, k < 15 → raw[aheadN raw + k]? = (raw.drop (aheadN raw))[k]? := fun k hk => by rw [List.getElem?_drop]
                  generalize hD : raw.drop (aheadN raw) = D at hrbe hdl hdg
                  rintro r H ⟨c5, hc5, rfl, rfl⟩
                  refine ⟨.inr ⟨rfl, by simp [nroH, nroB, nros_nums]⟩, [.c Fr0.cells, .c Fr0.cells, .c (ints raw), .c (ints want)], (by show [_, _, _, Blk.c (subs _ (ints _))] = _; first | (rw [subs_nums]; done) | (rw [subs_nums]; rfl)), ?_⟩
                  conv => whnf
                  refine ALoop.ind (ip := false) tok (fun m r H => ∃ (k : Nat), k ≤ 15 ∧ m = 15 - k ∧ D.take k = want.take k ∧ H = [.c Fr0.cells, .c Fr0.cells, .c (ints raw), .c (ints want)] ∧
                    r = [(13, .i .i64 k), (12, .sl (some (3, 0)) 1 15 c5), (11, .i .i64 (aheadN raw)), (9, .i .i64 (kn raw)), (8, .i .i64 i), (7, .i .i64 0), (6, .sl (some (2, 0)) 1 raw.length c), (5, .p (some (1, 0))), (2, .p (some (0, 0))), (0, .rs (ints L) 0 1 L.length)]) 15 ?_ ?_
                  · exact Gh.regs [13, 12, 11, 9, 8, 7, 6, 5, 2, 0] (Gh.of ⟨0, by omega, rfl, rfl, rfl, rfl⟩)
                  · rintro m r H ⟨k, hk, rfl, hDk, rfl, rfl⟩
                    conv => whnf
                    by_cases hkk : (k : Int) < 15
                    · have hk15 : k < 15 := by omega
                      have hwk : IntKind.i64.wrap (((aheadN raw : Nat) : Int) + (k : Int)) = ((aheadN raw + k : Nat) : Int) := by rw [w64 (by omega) (by omega)]; omega
                      refine acond_t (decide_eq_true hkk) ?_
                      conv => whnf
                      refine ADraw.of tok mixed false [0, 1, 2, 3, 4, 5, 6, 7, 8, 9, 10] [] (by kernel_rfl) (fun _ _ _ _ h => h) ?_
                      conv => whnf
                      refine ⟨⟨by rw [hwk]; omega, by rw [hwk]; omega⟩, ?_⟩
                      conv => whnf
                      refine aget_num (i := aheadN raw + k) (by rw [hwk]; omega) ((hdg k hk15).trans (List.getElem?_eq_getElem (by omega))) ?_
                      conv => whnf
                      refine ⟨⟨by omega, by omega⟩, ?_⟩
                      conv => whnf
                      refine aget_num (i := k) (by omega) (List.getElem?_eq_getElem (by omega)) ?_
                      conv => whnf
                      by_cases he : D[k] = want[k]
                      · refine acond_f (bne_eq_false_iff_eq.2 he) ?_
                        conv => whnf
                        refine Gh.regs [13, 12, 11, 9, 8, 7, 6, 5, 2, 0] (Gh.of ⟨15 - (k + 1), by omega, k + 1, by omega, rfl, ?_, rfl, by rw [w64 (by omega) (by omega)]; rfl⟩)
                        rw [List.take_succ_eq_append_getElem (by omega), List.take_succ_eq_append_getElem (by omega), hDk, he]
                      · refine acond_t (bne_iff_ne.2 he) ?_
                        conv => whnf
                        refine ⟨by show 0 + 12 ≤ 12; omega, ?_⟩
                        conv => whnf
                        have hrb : rightB (raw.take (aheadN raw + 15)) = false := by
                          rw [hrbe]
                          exact decide_eq_false (fun e => he (by subst e; rfl))
                        have hSe : S = (18, raw, last, 0) := by rw [← hS]; unfold stp; rw [if_neg hr5, if_neg hs0, if_neg h4, if_pos ⟨h5, hrb⟩]
                        refine fin Fr0 (i : Int) 18 _ ?_
                        rw [← hdec, hnx, hSe, if_pos (by show (18 : Int) ≠ 0; omega)]
                    · have hke : k = 15 := by omega
                      have hrb : rightB (raw.take (aheadN raw + 15)) = true := by
                        rw [hrbe]
                        refine decide_eq_true ?_
                        rw [hke, List.take_of_length_le (by omega), List.take_of_length_le (by omega)] at hDk
                        exact hDk
                      refine acond_f (decide_eq_false hkk) ?_
                      conv => whnf
                      by_cases h6 : kn raw = 6
                      · have h6b : (kn raw != 6) = false := bne_eq_false_iff_eq.2 h6
                        repeat (refine acond_f h6b ?_; conv => whnf)
                        have hSok : S = (0, raw ++ [x], last, 0) := by rw [← hS]; unfold stp; rw [if_neg hr5, if_neg hs0, if_neg h4, if_neg (fun e => by rw [hrb] at e; cases e.2), if_neg (fun e => e.1 h6)]
                        refine ⟨⟨by omega, by omega⟩, ?_⟩
                        conv => whnf
                        refine aget_num (i := i) (by omega) hget ?_
                        conv => whnf
                        refine ⟨by show 0 + raw.length * 1 ≤ (ints raw).length; rw [nums_length]; omega, ?_⟩
                        conv => whnf
                        refine ⟨by show 1 ≤ (1 : Nat); omega, ?_⟩
                        conv => whnf
                        refine ⟨rfl, by (try dsimp only); omega, by omega, fun g hg => ?_⟩
                        conv => whnf
                        have hR : S.2.1 = raw ++ [x] := by rw [hSok]
                        have hrl : (raw ++ [x]).length = raw.length + 1 := by rw [List.length_append]; rfl
                        have hst0 : S.1 = 0 := by rw [hSok]
                        obtain ⟨o1, o2, o3, o4, o5, o6⟩ := hstp hst0
                        rw [hR] at o1 o2 o4 o5 o6
                        have hblk : List.take (raw.length * 1) (List.drop 0 (ints raw)) ++ ints [x] = ints (raw ++ [x]) := by
                          rw [List.drop_zero, Nat.mul_one, List.take_of_length_le (by rw [nums_length]; omega), ← nums_append]
                        refine ACall.frameH [] [5] rfl (args' := [.rs (ints (raw ++ [x])) 0 1 (raw ++ [x]).length]) (Hc := []) (by show [AV.rs (subs _ (List.take (raw.length * 1) (List.drop 0 (ints raw)) ++ ints [x])) 0 1 (raw.length + 1)] = _; rw [hblk, subs_nums, hrl]) rfl (rnext_spec (raw ++ [x]) o1 (by omega)) ?_
                        rintro r H ⟨⟨j, rfl⟩, rfl⟩
                        refine ⟨.inr ⟨rfl, rfl⟩, [.c Fr0.cells, .c Fr0.cells, .dead, .c (ints want), .c (ints [x]), .c (ints (raw ++ [x]))], (by show [_, _, _, _, _, Blk.c (List.take (raw.length * 1) (List.drop 0 (ints raw)) ++ ints [x])] = _; rw [hblk]; rfl), ?_⟩
                        conv => whnf
                        by_cases h9 : kn (raw ++ [x]) = 9
                        · obtain ⟨hw9, hlen9⟩ := kn_done h9
                          refine acond_t (beq_iff_eq.2 h9) ?_
                          conv => whnf
                          refine ACall.frameH [] [5] rfl (args' := [.rs (ints (raw ++ [x])) 0 1 (raw ++ [x]).length]) (Hc := []) (by show [AV.rs (subs _ (ints _)) 0 1 (raw.length + 1)] = _; rw [subs_nums, hrl]) rfl (rframe_spec (raw ++ [x]) o1 (by omega) hw9 (by omega) o4) ?_
                          rintro r H ⟨rfl, rfl⟩
                          refine ⟨.inr ⟨rfl, rfl⟩, [.c Fr0.cells, .c Fr0.cells, .dead, .c (ints want), .c (ints [x]), .c (ints (raw ++ [x]))], rfl, ?_⟩
                          conv => whnf
                          refine ⟨by show 0 + 12 ≤ 12; omega, ?_⟩
                          conv => whnf
                          refine ⟨by show 0 + 12 ≤ 12; omega, ?_⟩
                          conv => whnf
                          rw [w64 (x := (i : Int) + 1) (by omega) (by omega)]
                          refine fin (frL (raw ++ [x])) ((i : Int) + 1) 0 _ ?_
                          rw [← hdec, hnx, if_neg (fun e => e hst0), hR, if_pos h9]
                        · refine acond_f (beq_eq_false_iff_ne.2 h9) ?_
                          conv => whnf
                          refine Gh.regs [8, 7, 6, 5, 2, 0] (Gh.sel [0, 1, 5] rfl (Gh.of ⟨L.length - (i + 1), by omega, i + 1, raw ++ [x], last, 0, by omega, rfl, ?_, ⟨o1, o2, h9, by omega, o4, fun e => absurd e o6⟩, by omega, .inr ⟨o6, by omega, .inr ⟨rfl, kn_high6 hk5 h9 o2⟩, g, by rw [hrl]; exact hg, (by show [_, _, Blk.c (subs _ (ints _))] = _; rw [subs_nums]; rfl), ?_⟩⟩))
                          · rw [← hdec, hnx, if_neg (fun e => e hst0), hR, if_neg h9, hSok]; rfl
                          · refine keep_eq (show keepR _ _ = [_, _, _, _, _, _] from rfl) ?_
                            simp only [subG, sub, subs_nums]
                            rw [w64 (by omega) (by omega), hrl]; rfl
                      · have h6b : (kn raw != 6) = true := bne_iff_ne.2 h6
                        repeat (refine acond_t h6b ?_; conv => whnf)
                        refine ⟨⟨by omega, by omega⟩, ?_⟩
                        conv => whnf
                        repeat (refine acond_t h6b ?_; conv => whnf)
                        refine aget_num (i := i) (by omega) hget ?_
                        conv => whnf
                        repeat (refine acond_t h6b ?_; conv => whnf)
                        by_cases hx0 : x = 0
                        · refine acond_t (beq_iff_eq.2 hx0) ?_
                          conv => whnf
                          refine ⟨by show 0 + 12 ≤ 12; omega, ?_⟩
                          conv => whnf
                          have hSe : S = (11, raw, last, 0) := by rw [← hS]; unfold stp; rw [if_neg hr5, if_neg hs0, if_neg h4, if_neg (fun e => by rw [hrb] at e; cases e.2), if_pos ⟨h6, hx0⟩]
                          refine fin Fr0 (i : Int) 11 _ ?_
                          rw [← hdec, hnx, hSe, if_pos (by show (11 : Int) ≠ 0; omega)]
                        · refine acond_f (beq_eq_false_iff_ne.2 hx0) ?_
                          conv => whnf
                          have hSok : S = (0, raw ++ [x], last, 0) := by rw [← hS]; unfold stp; rw [if_neg hr5, if_neg hs0, if_neg h4, if_neg (fun e => by rw [hrb] at e; cases e.2), if_neg (fun e => hx0 e.2)]
                          refine ⟨⟨by omega, by omega⟩, ?_⟩
                          conv => whnf
                          refine aget_num (i := i) (by omega) hget ?_
                          conv => whnf
                          refine ⟨by show 0 + raw.length * 1 ≤ (ints raw).length; rw [nums_length]; omega, ?_⟩
                          conv => whnf
                          refine ⟨by show 1 ≤ (1 : Nat); omega, ?_⟩
                          conv => whnf
                          refine ⟨rfl, by (try dsimp only); omega, by omega, fun g hg => ?_⟩
                          conv => whnf
                          have hR : S.2.1 = raw ++ [x] := by rw [hSok]
                          have hrl : (raw ++ [x]).length = raw.length + 1 := by rw [List.length_append]; rfl
                          have hst0 : S.1 = 0 := by rw [hSok]
                          obtain ⟨o1, o2, o3, o4, o5, o6⟩ := hstp hst0
                          rw [hR] at o1 o2 o4 o5 o6
                          have hblk : List.take (raw.length * 1) (List.drop 0 (ints raw)) ++ ints [x] = ints (raw ++ [x]) := by
                            rw [List.drop_zero, Nat.mul_one, List.take_of_length_le (by rw [nums_length]; omega), ← nums_append]
                          refine ACall.frameH [] [5] rfl (args' := [.rs (ints (raw ++ [x])) 0 1 (raw ++ [x]).length]) (Hc := []) (by show [AV.rs (subs _ (List.take (raw.length * 1) (List.drop 0 (ints raw)) ++ ints [x])) 0 1 (raw.length + 1)] = _; rw [hblk, subs_nums, hrl]) rfl (rnext_spec (raw ++ [x]) o1 (by omega)) ?_
                          rintro r H ⟨⟨j, rfl⟩, rfl⟩
                          refine ⟨.inr ⟨rfl, rfl⟩, [.c Fr0.cells, .c Fr0.cells, .dead, .c (ints want), .c (ints [x]), .c (ints (raw ++ [x]))], (by show [_, _, _, _, _, Blk.c (List.take (raw.length * 1) (List.drop 0 (ints raw)) ++ ints [x])] = _; rw [hblk]; rfl), ?_⟩
                          conv => whnf
                          by_cases h9 : kn (raw ++ [x]) = 9
                          · obtain ⟨hw9, hlen9⟩ := kn_done h9
                            refine acond_t (beq_iff_eq.2 h9) ?_
                            conv => whnf
                            refine ACall.frameH [] [5] rfl (args' := [.rs (ints (raw ++ [x])) 0 1 (raw ++ [x]).length]) (Hc := []) (by show [AV.rs (subs _ (ints _)) 0 1 (raw.length + 1)] = _; rw [subs_nums, hrl]) rfl (rframe_spec (raw ++ [x]) o1 (by omega) hw9 (by omega) o4) ?_
                            rintro r H ⟨rfl, rfl⟩
                            refine ⟨.inr ⟨rfl, rfl⟩, [.c Fr0.cells, .c Fr0.cells, .dead, .c (ints want), .c (ints [x]), .c (ints (raw ++ [x]))], rfl, ?_⟩
                            conv => whnf
                            refine ⟨by show 0 + 12 ≤ 12; omega, ?_⟩
                            conv => whnf
                            refine ⟨by show 0 + 12 ≤ 12; omega, ?_⟩
                            conv => whnf
                            rw [w64 (x := (i : Int) + 1) (by omega) (by omega)]
                            refine fin (frL (raw ++ [x])) ((i : Int) + 1) 0 _ ?_
                            rw [← hdec, hnx, if_neg (fun e => e hst0), hR, if_pos h9]
                          · refine acond_f (beq_eq_false_iff_ne.2 h9) ?_
                            conv => whnf
                            refine Gh.regs [8, 7, 6, 5, 2, 0] (Gh.sel [0, 1, 5] rfl (Gh.of ⟨L.length - (i + 1), by omega, i + 1, raw ++ [x], last, 0, by omega, rfl, ?_, ⟨o1, o2, h9, by omega, o4, fun e => absurd e o6⟩, by omega, .inr ⟨o6, by omega, .inr ⟨rfl, kn_high6 hk5 h9 o2⟩, g, by rw [hrl]; exact hg, (by show [_, _, Blk.c (subs _ (ints _))] = _; rw [subs_nums]; rfl), ?_⟩⟩))
                            · rw [← hdec, hnx, if_neg (fun e => e hst0), hR, if_neg h9, hSok]; rfl
                            · refine keep_eq (show keepR _ _ = [_, _, _, _, _, _] from rfl) ?_
                              simp only [subG, sub, subs_nums]
                              rw [w64 (by omega) (by omega), hrl]; rfl
                · refine acond_f (beq_eq_false_iff_ne.2 h5) ?_
                  conv => whnf
                  by_cases h6 : kn raw = 6
                  · have h6b : (kn raw != 6) = false := bne_eq_false_iff_eq.2 h6
                    repeat (refine acond_f h6b ?_; conv => whnf)
                    have hSok : S = (0, raw ++ [x], last, 0) := by rw [← hS]; unfold stp; rw [if_neg hr5, if_neg hs0, if_neg h4, if_neg (fun e => h5 e.1), if_neg (fun e => e.1 h6)]
                    refine ⟨⟨by omega, by omega⟩, ?_⟩
                    conv => whnf
                    refine aget_num (i := i) (by omega) hget ?_
                    conv => whnf
                    refine ⟨by show 0 + raw.length * 1 ≤ (ints raw).length; rw [nums_length]; omega, ?_⟩
                    conv => whnf
                    refine ⟨by show 1 ≤ (1 : Nat); omega, ?_⟩
                    conv => whnf
                    refine ⟨rfl, by (try dsimp only); omega, by omega, fun g hg => ?_⟩
                    conv => whnf
                    have hR : S.2.1 = raw ++ [x] := by rw [hSok]
                    have hrl : (raw ++ [x]).length = raw.length + 1 := by rw [List.length_append]; rfl
                    have hst0 : S.1 = 0 := by rw [hSok]
                    obtain ⟨o1, o2, o3, o4, o5, o6⟩ := hstp hst0
                    rw [hR] at o1 o2 o4 o5 o6
                    have hblk : List.take (raw.length * 1) (List.drop 0 (ints raw)) ++ ints [x] = ints (raw ++ [x]) := by
                      rw [List.drop_zero, Nat.mul_one, List.take_of_length_le (by rw [nums_length]; omega), ← nums_append]
                    refine ACall.frameH [] [4] rfl (args' := [.rs (ints (raw ++ [x])) 0 1 (raw ++ [x]).length]) (Hc := []) (by show [AV.rs (subs _ (List.take (raw.length * 1) (List.drop 0 (ints raw)) ++ ints [x])) 0 1 (raw.length + 1)] = _; rw [hblk, subs_nums, hrl]) rfl (rnext_spec (raw ++ [x]) o1 (by omega)) ?_
                    rintro r H ⟨⟨j, rfl⟩, rfl⟩
                    refine ⟨.inr ⟨rfl, rfl⟩, [.c Fr0.cells, .c Fr0.cells, .dead, .c (ints [x]), .c (ints (raw ++ [x]))], (by show [_, _, _, _, Blk.c (List.take (raw.length * 1) (List.drop 0 (ints raw)) ++ ints [x])] = _; rw [hblk]; rfl), ?_⟩
                    conv => whnf
                    by_cases h9 : kn (raw ++ [x]) = 9
                    · obtain ⟨hw9, hlen9⟩ := kn_done h9
                      refine acond_t (beq_iff_eq.2 h9) ?_
                      conv => whnf
                      refine ACall.frameH [] [4] rfl (args' := [.rs (ints (raw ++ [x])) 0 1 (raw ++ [x]).length]) (Hc := []) (by show [AV.rs (subs _ (ints _)) 0 1 (raw.length + 1)] = _; rw [subs_nums, hrl]) rfl (rframe_spec (raw ++ [x]) o1 (by omega) hw9 (by omega) o4) ?_
                      rintro r H ⟨rfl, rfl⟩
                      refine ⟨.inr ⟨rfl, rfl⟩, [.c Fr0.cells, .c Fr0.cells, .dead, .c (ints [x]), .c (ints (raw ++ [x]))], rfl, ?_⟩
                      conv => whnf
                      refine ⟨by show 0 + 12 ≤ 12; omega, ?_⟩
                      conv => whnf
                      refine ⟨by show 0 + 12 ≤ 12; omega, ?_⟩
                      conv => whnf
                      rw [w64 (x := (i : Int) + 1) (by omega) (by omega)]
                      refine fin (frL (raw ++ [x])) ((i : Int) + 1) 0 _ ?_
                      rw [← hdec, hnx, if_neg (fun e => e hst0), hR, if_pos h9]
                    · refine acond_f (beq_eq_false_iff_ne.2 h9) ?_
                      conv => whnf
                      refine Gh.regs [8, 7, 6, 5, 2, 0] (Gh.sel [0, 1, 4] rfl (Gh.of ⟨L.length - (i + 1), by omega, i + 1, raw ++ [x], last, 0, by omega, rfl, ?_, ⟨o1, o2, h9, by omega, o4, fun e => absurd e o6⟩, by omega, .inr ⟨o6, by omega, .inr ⟨rfl, kn_high6 hk5 h9 o2⟩, g, by rw [hrl]; exact hg, (by show [_, _, Blk.c (subs _ (ints _))] = _; rw [subs_nums]; rfl), ?_⟩⟩))
                      · rw [← hdec, hnx, if_neg (fun e => e hst0), hR, if_neg h9, hSok]; rfl
                      · refine keep_eq (show keepR _ _ = [_, _, _, _, _, _] from rfl) ?_
                        simp only [subG, sub, subs_nums]
                        rw [w64 (by omega) (by omega), hrl]; rfl
                  · have h6b : (kn raw != 6) = true := bne_iff_ne.2 h6
                    repeat (refine acond_t h6b ?_; conv => whnf)
                    refine ⟨⟨by omega, by omega⟩, ?_⟩
                    conv => whnf
                    repeat (refine acond_t h6b ?_; conv => whnf)
                    refine aget_num (i := i) (by omega) hget ?_
                    conv => whnf
                    repeat (refine acond_t h6b ?_; conv => whnf)
                    by_cases hx0 : x = 0
                    · refine acond_t (beq_iff_eq.2 hx0) ?_
                      conv => whnf
                      refine ⟨by show 0 + 12 ≤ 12; omega, ?_⟩
                      conv => whnf
                      have hSe : S = (11, raw, last, 0) := by rw [← hS]; unfold stp; rw [if_neg hr5, if_neg hs0, if_neg h4, if_neg (fun e => h5 e.1), if_pos ⟨h6, hx0⟩]
                      refine fin Fr0 (i : Int) 11 _ ?_
                      rw [← hdec, hnx, hSe, if_pos (by show (11 : Int) ≠ 0; omega)]
                    · refine acond_f (beq_eq_false_iff_ne.2 hx0) ?_
                      conv => whnf
                      have hSok : S = (0, raw ++ [x], last, 0) := by rw [← hS]; unfold stp; rw [if_neg hr5, if_neg hs0, if_neg h4, if_neg (fun e => h5 e.1), if_neg (fun e => hx0 e.2)]
                      refine ⟨⟨by omega, by omega⟩, ?_⟩
                      conv => whnf
                      refine aget_num (i := i) (by omega) hget ?_
                      conv => whnf
                      refine ⟨by show 0 + raw.length * 1 ≤ (ints raw).length; rw [nums_length]; omega, ?_⟩
                      conv => whnf
                      refine ⟨by show 1 ≤ (1 : Nat); omega, ?_⟩
                      conv => whnf
                      refine ⟨rfl, by (try dsimp only); omega, by omega, fun g hg => ?_⟩
                      conv => whnf
                      have hR : S.2.1 = raw ++ [x] := by rw [hSok]
                      have hrl : (raw ++ [x]).length = raw.length + 1 := by rw [List.length_append]; rfl
                      have hst0 : S.1 = 0 := by rw [hSok]
                      obtain ⟨o1, o2, o3, o4, o5, o6⟩ := hstp hst0
                      rw [hR] at o1 o2 o4 o5 o6
                      have hblk : List.take (raw.length * 1) (List.drop 0 (ints raw)) ++ ints [x] = ints (raw ++ [x]) := by
                        rw [List.drop_zero, Nat.mul_one, List.take_of_length_le (by rw [nums_length]; omega), ← nums_append]
                      refine ACall.frameH [] [4] rfl (args' := [.rs (ints (raw ++ [x])) 0 1 (raw ++ [x]).length]) (Hc := []) (by show [AV.rs (subs _ (List.take (raw.length * 1) (List.drop 0 (ints raw)) ++ ints [x])) 0 1 (raw.length + 1)] = _; rw [hblk, subs_nums, hrl]) rfl (rnext_spec (raw ++ [x]) o1 (by omega)) ?_
                      rintro r H ⟨⟨j, rfl⟩, rfl⟩
                      refine ⟨.inr ⟨rfl, rfl⟩, [.c Fr0.cells, .c Fr0.cells, .dead, .c (ints [x]), .c (ints (raw ++ [x]))], (by show [_, _, _, _, Blk.c (List.take (raw.length * 1) (List.drop 0 (ints raw)) ++ ints [x])] = _; rw [hblk]; rfl), ?_⟩
                      conv => whnf
                      by_cases h9 : kn (raw ++ [x]) = 9
                      · obtain ⟨hw9, hlen9⟩ := kn_done h9
                        refine acond_t (beq_iff_eq.2 h9) ?_
                        conv => whnf
                        refine ACall.frameH [] [4] rfl (args' := [.rs (ints (raw ++ [x])) 0 1 (raw ++ [x]).length]) (Hc := []) (by show [AV.rs (subs _ (ints _)) 0 1 (raw.length + 1)] = _; rw [subs_nums, hrl]) rfl (rframe_spec (raw ++ [x]) o1 (by omega) hw9 (by omega) o4) ?_
                        rintro r H ⟨rfl, rfl⟩
                        refine ⟨.inr ⟨rfl, rfl⟩, [.c Fr0.cells, .c Fr0.cells, .dead, .c (ints [x]), .c (ints (raw ++ [x]))], rfl, ?_⟩
                        conv => whnf
                        refine ⟨by show 0 + 12 ≤ 12; omega, ?_⟩
                        conv => whnf
                        refine ⟨by show 0 + 12 ≤ 12; omega, ?_⟩
                        conv => whnf
                        rw [w64 (x := (i : Int) + 1) (by omega) (by omega)]
                        refine fin (frL (raw ++ [x])) ((i : Int) + 1) 0 _ ?_
                        rw [← hdec, hnx, if_neg (fun e => e hst0), hR, if_pos h9]
                      · refine acond_f (beq_eq_false_iff_ne.2 h9) ?_
                        conv => whnf
                        refine Gh.regs [8, 7, 6, 5, 2, 0] (Gh.sel [0, 1, 4] rfl (Gh.of ⟨L.length - (i + 1), by omega, i + 1, raw ++ [x], last, 0, by omega, rfl, ?_, ⟨o1, o2, h9, by omega, o4, fun e => absurd e o6⟩, by omega, .inr ⟨o6, by omega, .inr ⟨rfl, kn_high6 hk5 h9 o2⟩, g, by rw [hrl]; exact hg, (by show [_, _, Blk.c (subs _ (ints _))] = _; rw [subs_nums]; rfl), ?_⟩⟩))
                        · rw [← hdec, hnx, if_neg (fun e => e hst0), hR, if_neg h9, hSok]; rfl
                        · refine keep_eq (show keepR _ _ = [_, _, _, _, _, _] from rfl) ?_
                          simp only [subG, sub, subs_nums]
                          rw [w64 (by omega) (by omega), hrl]; rfl
          · have hx1 : x = 1 := by omega
            have hb0 : (x != 0) = true := bne_iff_ne.2 hx0
            have hb1 : (x != 1) = false := bne_eq_false_iff_eq.2 hx1
            repeat (refine acond_t hb0 ?_; conv => whnf)
            refine ⟨⟨by omega, by omega⟩, ?_⟩
            conv => whnf
            repeat (refine acond_t hb0 ?_; conv => whnf)
            refine aget_num (i := i) (by omega) hget ?_
            conv => whnf
            repeat (refine acond_t hb0 ?_; conv => whnf)
            repeat (refine acond_f hb1 ?_; conv => whnf)
            have hi0b : ((i : Int) == 0) = false := beq_eq_false_iff_ne.2 (by omega)
            repeat (refine acond_f hi0b ?_; conv => whnf)
            refine ACall.frameH [] [2] rfl (args' := [.rs (ints raw) 0 1 raw.length]) (Hc := []) (by show [AV.rs (subs _ (ints _)) _ _ _] = _; first | (rw [subs_nums]; done) | (rw [subs_nums]; rfl)) rfl (rnext_spec raw hok.lv (by omega)) ?_
            rintro r H ⟨⟨j, rfl⟩, rfl⟩
            refine ⟨.inr ⟨rfl, rfl⟩, [.c Fr0.cells, .c Fr0.cells, .c (ints raw)], rfl, ?_⟩
            conv => whnf
            by_cases hr5 : run = 5
            · obtain ⟨hr1, hk5, hlast⟩ := hph.resolve_right (fun e => by omega)
              refine acond_t (beq_iff_eq.2 hr5) ?_
              conv => whnf
              refine ADraw.of tok mixed false [0, 1, 2, 3, 4, 5, 6, 7, 8, 9] [] (by kernel_rfl) (fun _ _ _ _ h => h) ?_
              conv => whnf
              refine ⟨⟨by omega, by omega⟩, ?_⟩
              conv => whnf
              refine aget_num (i := i) (by omega) hget ?_
              conv => whnf
              refine ⟨⟨by rw [hw1]; omega, by rw [hw1]; omega⟩, ?_⟩
              conv => whnf
              refine aget_num (i := i - 1) (by rw [hw1]; omega) hlast ?_
              conv => whnf
              by_cases hxl : x = last
              · refine acond_t (beq_iff_eq.2 hxl) ?_
                conv => whnf
                refine ⟨by show 0 + 12 ≤ 12; omega, ?_⟩
                conv => whnf
                have hSe : S = (17, raw, last, run) := by rw [← hS]; unfold stp; rw [if_pos hr5, if_pos hxl]
                refine fin Fr0 (i : Int) 17 _ ?_
                rw [← hdec, hnx, hSe, if_pos (by show (17 : Int) ≠ 0; omega)]
              · refine acond_f (beq_eq_false_iff_ne.2 hxl) ?_
                conv => whnf
                have hSok : S = (0, raw, x, 1) := by rw [← hS]; unfold stp; rw [if_pos hr5, if_neg hxl]
                refine Gh.regs [8, 7, 6, 5, 2, 0] (Gh.of ⟨L.length - (i + 1), by omega, i + 1, raw, x, 1, by omega, rfl, ?_, ⟨hok.lv, hok.kn0, hok.kn9, by omega, hok.first, fun e => absurd e hne⟩, by omega, .inr ⟨hne, by omega, .inl ⟨by omega, hk5, by rw [Nat.add_sub_cancel]; exact hget⟩, c, hc, rfl, ?_⟩⟩)
                · rw [← hdec, hnx, hSok, if_neg (fun e => e rfl), if_neg hok.kn9]; rfl
                · rw [w64 (by omega) (by omega)]; rfl
            · refine acond_f (beq_eq_false_iff_ne.2 hr5) ?_
              conv => whnf
              have hs0 : ¬ (kn raw = 0 ∧ x = 1) := fun e => by have := kn_pos hne hok.kn0; omega
              by_cases h4 : kn raw ≤ 4
              · obtain ⟨hr1, hk5, hlast⟩ := hph.resolve_right (fun e => by omega)
                refine acond_t (decide_eq_true h4) ?_
                conv => whnf
                refine ADraw.of tok mixed false [0, 1, 2, 3, 4, 5, 6, 7, 8, 9, 10, 11, 12, 13] [] (by kernel_rfl) (fun _ _ _ _ h => h) ?_
                conv => whnf
                repeat (refine acond_t hig ?_; conv => whnf)
                refine ⟨⟨by omega, by omega⟩, ?_⟩
                conv => whnf
                repeat (refine acond_t hig ?_; conv => whnf)
                refine aget_num (i := i) (by omega) hget ?_
                conv => whnf
                repeat (refine acond_t hig ?_; conv => whnf)
                refine ⟨⟨by rw [hw1]; omega, by rw [hw1]; omega⟩, ?_⟩
                conv => whnf
                repeat (refine acond_t hig ?_; conv => whnf)
                refine aget_num (i := i - 1) (by rw [hw1]; omega) hlast ?_
                conv => whnf
                repeat (refine acond_t hig ?_; conv => whnf)
                by_cases hxl : x = last
                · refine acond_t (beq_iff_eq.2 hxl) ?_
                  conv => whnf
                  refine ⟨⟨by omega, by omega⟩, ?_⟩
                  conv => whnf
                  refine aget_num (i := i) (by omega) hget ?_
                  conv => whnf
                  refine ⟨by show 0 + raw.length * 1 ≤ (ints raw).length; rw [nums_length]; omega, ?_⟩
                  conv => whnf
                  refine ⟨by show 1 ≤ (1 : Nat); omega, ?_⟩
                  conv => whnf
                  refine ⟨rfl, by (try dsimp only); omega, by omega, fun g hg => ?_⟩
                  conv => whnf
                  have hSok : S = (0, raw ++ [x], x, (run + 1)) := by rw [← hS]; unfold stp; rw [if_neg hr5, if_neg hs0, if_pos h4, if_pos ⟨by omega, hxl⟩]
                  have hst0 : S.1 = 0 := by rw [hSok]
                  obtain ⟨o1, o2, o3, o4, o5, o6⟩ := hstp hst0
                  rw [hSok] at o1 o2 o3 o4 o5 o6
                  dsimp only at o1 o2 o3 o4 o5 o6
                  have hk5 := kn_low5 x h4 hok.kn0
                  have hrl : (raw ++ [x]).length = raw.length + 1 := by rw [List.length_append]; rfl
                  refine Gh.regs [8, 7, 6, 5, 2, 0] (Gh.sel [0, 1, 4] rfl (Gh.of ⟨L.length - (i + 1), by omega, i + 1, raw ++ [x], x, (run + 1), by omega, rfl, ?_, ⟨o1, o2, by omega, o3, o4, fun e => absurd e o6⟩, by omega, .inr ⟨o6, by omega, .inl ⟨by omega, hk5, by rw [Nat.add_sub_cancel]; exact hget⟩, g, by rw [hrl]; exact hg, ?_, ?_⟩⟩))
                  · rw [← hdec, hnx, if_neg (fun e => e hst0), hSok, if_neg (by show ¬ kn (raw ++ [x]) = 9; omega)]; rfl
                  · show [_, _, Blk.c (subs _ (List.take (raw.length * 1) (List.drop 0 (ints raw)) ++ ints [x]))] = _
                    rw [List.drop_zero, Nat.mul_one, List.take_of_length_le (by rw [nums_length]; omega), ← nums_append, subs_nums]; rfl
                  · refine keep_eq (show keepR _ _ = [_, _, _, _, _, _] from rfl) ?_
                    simp only [subG, sub, subs_nums]
                    rw [w64 (x := (i : Int) + 1) (by omega) (by omega), w64 (by omega) (by omega), hrl]; rfl
                · refine acond_f (beq_eq_false_iff_ne.2 hxl) ?_
                  conv => whnf
                  refine ⟨⟨by omega, by omega⟩, ?_⟩
                  conv => whnf
                  refine aget_num (i := i) (by omega) hget ?_
                  conv => whnf
                  refine ⟨by show 0 + raw.length * 1 ≤ (ints raw).length; rw [nums_length]; omega, ?_⟩
                  conv => whnf
                  refine ⟨by show 1 ≤ (1 : Nat); omega, ?_⟩
                  conv => whnf
                  refine ⟨rfl, by (try dsimp only); omega, by omega, fun g hg => ?_⟩
                  conv => whnf
                  have hSok : S = (0, raw ++ [x], x, 1) := by rw [← hS]; unfold stp; rw [if_neg hr5, if_neg hs0, if_pos h4, if_neg (fun e => hxl e.2)]
                  have hst0 : S.1 = 0 := by rw [hSok]
                  obtain ⟨o1, o2, o3, o4, o5, o6⟩ := hstp hst0
                  rw [hSok] at o1 o2 o3 o4 o5 o6
                  dsimp only at o1 o2 o3 o4 o5 o6
                  have hk5 := kn_low5 x h4 hok.kn0
                  have hrl : (raw ++ [x]).length = raw.length + 1 := by rw [List.length_append]; rfl
                  refine Gh.regs [8, 7, 6, 5, 2, 0] (Gh.sel [0, 1, 4] rfl (Gh.of ⟨L.length - (i + 1), by omega, i + 1, raw ++ [x], x, 1, by omega, rfl, ?_, ⟨o1, o2, by omega, o3, o4, fun e => absurd e o6⟩, by omega, .inr ⟨o6, by omega, .inl ⟨by omega, hk5, by rw [Nat.add_sub_cancel]; exact hget⟩, g, by rw [hrl]; exact hg, ?_, ?_⟩⟩))
                  · rw [← hdec, hnx, if_neg (fun e => e hst0), hSok, if_neg (by show ¬ kn (raw ++ [x]) = 9; omega)]; rfl
                  · show [_, _, Blk.c (subs _ (List.take (raw.length * 1) (List.drop 0 (ints raw)) ++ ints [x]))] = _
                    rw [List.drop_zero, Nat.mul_one, List.take_of_length_le (by rw [nums_length]; omega), ← nums_append, subs_nums]; rfl
                  · refine keep_eq (show keepR _ _ = [_, _, _, _, _, _] from rfl) ?_
                    simp only [subG, sub, subs_nums]
                    rw [w64 (x := (i : Int) + 1) (by omega) (by omega), hrl]; rfl
              · refine acond_f (decide_eq_false h4) ?_
                conv => whnf
                have hk5 : 5 ≤ kn raw := by omega
                by_cases h5 : kn raw = 5
                · obtain ⟨hw, hlen⟩ := kn_five h5
                  have hlen2 : raw.length = aheadN raw + 15 := kn_five_len h5
                  have hb := aheadN_le raw
                  refine acond_t (beq_iff_eq.2 h5) ?_
                  conv => whnf
                  refine ACall.frameH [] [2] rfl (args' := [.rs (ints raw) 0 1 raw.length]) (Hc := []) (by show [AV.rs (subs _ (ints _)) _ _ _] = _; first | (rw [subs_nums]; done) | (rw [subs_nums]; rfl)) rfl (rahead_spec raw hok.lv (by omega) hw) ?_
                  rintro r H ⟨rfl, rfl⟩
                  refine ⟨.inr ⟨rfl, rfl⟩, [.c Fr0.cells, .c Fr0.cells, .c (ints raw)], rfl, ?_⟩
                  conv => whnf
                  refine ⟨by omega, ?_⟩
                  conv => whnf
                  have hcut : cut raw 0 (aheadN raw) = raw.take (aheadN raw) := List.drop_zero
                  have hsum := rsum_spec (cut raw 0 (aheadN raw)) (cut_lv hok.lv _ _) (by rw [cut_length _ _ _ (by omega)]; omega)
                  rw [hcut] at hsum
                  have hv := VLe.cut (L := raw) (a := 0) (b := aheadN raw) (o := 0) (n := aheadN raw) (by omega) (by omega) rfl rfl VLe.nil
                  rw [hcut] at hv
                  refine ACall.frameH [] [2] rfl (args' := [.rs (ints raw) 0 1 (aheadN raw)]) (Hc := []) (by show [AV.rs (subs _ (ints _)) _ _ _] = _; first | (rw [subs_nums]; done) | (rw [subs_nums]; rfl)) rfl (ACall.args hsum hv) ?_
                  have hrbe : rightB (raw.take (aheadN raw + 15)) = decide (raw.drop (aheadN raw) = ofI (crcN (raw.take (aheadN raw)) : Nat) 15) := by
                    rw [List.take_of_length_le (by omega)]
                    unfold rightB
                    rw [decide_eq_true (by omega : 15 ≤ raw.length), Bool.true_and, show raw.length - 15 = aheadN raw from by omega]
                  generalize hwant : ofI (crcN (raw.take (aheadN raw)) : Nat) 15 = want at hrbe
                  have hwl : want.length = 15 := by rw [← hwant]; exact ofI_length _ _
                  have hdl : (raw.drop (aheadN raw)).length = 15 := by rw [List.length_drop]; omega
                  have hdg : ∀ k, k < 15 → raw[aheadN raw + k]? = (raw.drop (aheadN raw))[k]? := fun k hk => by rw [List.getElem?_drop]
                  generalize hD : raw.drop (aheadN raw) = D at hrbe hdl hdg
                  rintro r H ⟨c5, hc5, rfl, rfl⟩
                  refine ⟨.inr ⟨rfl, by simp [nroH, nroB, nros_nums]⟩, [.c Fr0.cells, .c Fr0.cells, .c (ints raw), .c (ints want)], (by show [_, _, _, Blk.c (subs _ (ints _))] = _; first | (rw [subs_nums]; done) | (rw [subs_nums]; rfl)), ?_⟩
                  conv => whnf
                  refine ALoop.ind (ip := false) tok (fun m r H => ∃ (k : Nat), k ≤ 15 ∧ m = 15 - k ∧ D.take k = want.take k ∧ H = [.c Fr0.cells, .c Fr0.cells, .c (ints raw), .c (ints want)] ∧
                    r = [(13, .i .i64 k), (12, .sl (some (3, 0)) 1 15 c5), (11, .i .i64 (aheadN raw)), (9, .i .i64 (kn raw)), (8, .i .i64 i), (7, .i .i64 0), (6, .sl (some (2, 0)) 1 raw.length c), (5, .p (some (1, 0))), (2, .p (some (0, 0))), (0, .rs (ints L) 0 1 L.length)]) 15 ?_ ?_
                  · exact Gh.regs [13, 12, 11, 9, 8, 7, 6, 5, 2, 0] (Gh.of ⟨0, by omega, rfl, rfl, rfl, rfl⟩)
                  · rintro m r H ⟨k, hk, rfl, hDk, rfl, rfl⟩
                    conv => whnf
                    by_cases hkk : (k : Int) < 15
                    · have hk15 : k < 15 := by omega
                      have hwk : IntKind.i64.wrap (((aheadN raw : Nat) : Int) + (k : Int)) = ((aheadN raw + k : Nat) : Int) := by rw [w64 (by omega) (by omega)]; omega
                      refine acond_t (decide_eq_true hkk) ?_
                      conv => whnf
                      refine ADraw.of tok mixed false [0, 1, 2, 3, 4, 5, 6, 7, 8, 9, 10] [] (by kernel_rfl) (fun _ _ _ _ h => h) ?_
                      conv => whnf
                      refine ⟨⟨by rw [hwk]; omega, by rw [hwk]; omega⟩, ?_⟩
                      conv => whnf
                      refine aget_num (i := aheadN raw + k) (by rw [hwk]; omega) ((hdg k hk15).trans (List.getElem?_eq_getElem (by omega))) ?_
                      conv => whnf
                      refine ⟨⟨by omega, by omega⟩, ?_⟩
                      conv => whnf
                      refine aget_num (i := k) (by omega) (List.getElem?_eq_getElem (by omega)) ?_
                      conv => whnf
                      by_cases he : D[k] = want[k]
                      · refine acond_f (bne_eq_false_iff_eq.2 he) ?_
                        conv => whnf
                        refine Gh.regs [13, 12, 11, 9, 8, 7, 6, 5, 2, 0] (Gh.of ⟨15 - (k + 1), by omega, k + 1, by omega, rfl, ?_, rfl, by rw [w64 (by omega) (by omega)]; rfl⟩)
                        rw [List.take_succ_eq_append_getElem (by omega), List.take_succ_eq_append_getElem (by omega), hDk, he]
                      · refine acond_t (bne_iff_ne.2 he) ?_
                        conv => whnf
                        refine ⟨by show 0 + 12 ≤ 12; omega, ?_⟩
                        conv => whnf
                        have hrb : rightB (raw.take (aheadN raw + 15)) = false := by
                          rw [hrbe]
                          exact decide_eq_false (fun e => he (by subst e; rfl))
                        have hSe : S = (18, raw, last, 0) := by rw [← hS]; unfold stp; rw [if_neg hr5, if_neg hs0, if_neg h4, if_pos ⟨h5, hrb⟩]
                        refine fin Fr0 (i : Int) 18 _ ?_
                        rw [← hdec, hnx, hSe, if_pos (by show (18 : Int) ≠ 0; omega)]
                    · have hke : k = 15 := by omega
                      have hrb : rightB (raw.take (aheadN raw + 15)) = true := by
                        rw [hrbe]
                        refine decide_eq_true ?_
                        rw [hke, List.take_of_length_le (by omega), List.take_of_length_le (by omega)] at hDk
                        exact hDk
                      refine acond_f (decide_eq_false hkk) ?_
                      conv => whnf
                      by_cases h6 : kn raw = 6
                      · have h6b : (kn raw != 6) = false := bne_eq_false_iff_eq.2 h6
                        repeat (refine acond_f h6b ?_; conv => whnf)
                        have hSok : S = (0, raw ++ [x], last, 0) := by rw [← hS]; unfold stp; rw [if_neg hr5, if_neg hs0, if_neg h4, if_neg (fun e => by rw [hrb] at e; cases e.2), if_neg (fun e => e.1 h6)]
                        refine ⟨⟨by omega, by omega⟩, ?_⟩
                        conv => whnf
                        refine aget_num (i := i) (by omega) hget ?_
                        conv => whnf
                        refine ⟨by show 0 + raw.length * 1 ≤ (ints raw).length; rw [nums_length]; omega, ?_⟩
                        conv => whnf
                        refine ⟨by show 1 ≤ (1 : Nat); omega, ?_⟩
                        conv => whnf
                        refine ⟨rfl, by (try dsimp only); omega, by omega, fun g hg => ?_⟩
                        conv => whnf
                        have hR : S.2.1 = raw ++ [x] := by rw [hSok]
                        have hrl : (raw ++ [x]).length = raw.length + 1 := by rw [List.length_append]; rfl
                        have hst0 : S.1 = 0 := by rw [hSok]
                        obtain ⟨o1, o2, o3, o4, o5, o6⟩ := hstp hst0
                        rw [hR] at o1 o2 o4 o5 o6
                        have hblk : List.take (raw.length * 1) (List.drop 0 (ints raw)) ++ ints [x] = ints (raw ++ [x]) := by
                          rw [List.drop_zero, Nat.mul_one, List.take_of_length_le (by rw [nums_length]; omega), ← nums_append]
                        refine ACall.frameH [] [5] rfl (args' := [.rs (ints (raw ++ [x])) 0 1 (raw ++ [x]).length]) (Hc := []) (by show [AV.rs (subs _ (List.take (raw.length * 1) (List.drop 0 (ints raw)) ++ ints [x])) 0 1 (raw.length + 1)] = _; rw [hblk, subs_nums, hrl]) rfl (rnext_spec (raw ++ [x]) o1 (by omega)) ?_
                        rintro r H ⟨⟨j, rfl⟩, rfl⟩
                        refine ⟨.inr ⟨rfl, rfl⟩, [.c Fr0.cells, .c Fr0.cells, .dead, .c (ints want), .c (ints [x]), .c (ints (raw ++ [x]))], (by show [_, _, _, _, _, Blk.c (List.take (raw.length * 1) (List.drop 0 (ints raw)) ++ ints [x])] = _; rw [hblk]; rfl), ?_⟩
                        conv => whnf
                        by_cases h9 : kn (raw ++ [x]) = 9
                        · obtain ⟨hw9, hlen9⟩ := kn_done h9
                          refine acond_t (beq_iff_eq.2 h9) ?_
                          conv => whnf
                          refine ACall.frameH [] [5] rfl (args' := [.rs (ints (raw ++ [x])) 0 1 (raw ++ [x]).length]) (Hc := []) (by show [AV.rs (subs _ (ints _)) 0 1 (raw.length + 1)] = _; rw [subs_nums, hrl]) rfl (rframe_spec (raw ++ [x]) o1 (by omega) hw9 (by omega) o4) ?_
                          rintro r H ⟨rfl, rfl⟩
                          refine ⟨.inr ⟨rfl, rfl⟩, [.c Fr0.cells, .c Fr0.cells, .dead, .c (ints want), .c (ints [x]), .c (ints (raw ++ [x]))], rfl, ?_⟩
                          conv => whnf
                          refine ⟨by show 0 + 12 ≤ 12; omega, ?_⟩
                          conv => whnf
                          refine ⟨by show 0 + 12 ≤ 12; omega, ?_⟩
                          conv => whnf
                          rw [w64 (x := (i : Int) + 1) (by omega) (by omega)]
                          refine fin (frL (raw ++ [x])) ((i : Int) + 1) 0 _ ?_
                          rw [← hdec, hnx, if_neg (fun e => e hst0), hR, if_pos h9]
                        · refine acond_f (beq_eq_false_iff_ne.2 h9) ?_
                          conv => whnf
                          refine Gh.regs [8, 7, 6, 5, 2, 0] (Gh.sel [0, 1, 5] rfl (Gh.of ⟨L.length - (i + 1), by omega, i + 1, raw ++ [x], last, 0, by omega, rfl, ?_, ⟨o1, o2, h9, by omega, o4, fun e => absurd e o6⟩, by omega, .inr ⟨o6, by omega, .inr ⟨rfl, kn_high6 hk5 h9 o2⟩, g, by rw [hrl]; exact hg, (by show [_, _, Blk.c (subs _ (ints _))] = _; rw [subs_nums]; rfl), ?_⟩⟩))
                          · rw [← hdec, hnx, if_neg (fun e => e hst0), hR, if_neg h9, hSok]; rfl
                          · refine keep_eq (show keepR _ _ = [_, _, _, _, _, _] from rfl) ?_
                            simp only [subG, sub, subs_nums]
                            rw [w64 (by omega) (by omega), hrl]; rfl
                      · have h6b : (kn raw != 6) = true := bne_iff_ne.2 h6
                        repeat (refine acond_t h6b ?_; conv => whnf)
                        refine ⟨⟨by omega, by omega⟩, ?_⟩
                        conv => whnf
                        repeat (refine acond_t h6b ?_; conv => whnf)
                        refine aget_num (i := i) (by omega) hget ?_
                        conv => whnf
                        repeat (refine acond_t h6b ?_; conv => whnf)
                        by_cases hx0 : x = 0
                        · refine acond_t (beq_iff_eq.2 hx0) ?_
                          conv => whnf
                          refine ⟨by show 0 + 12 ≤ 12; omega, ?_⟩
                          conv => whnf
                          have hSe : S = (11, raw, last, 0) := by rw [← hS]; unfold stp; rw [if_neg hr5, if_neg hs0, if_neg h4, if_neg (fun e => by rw [hrb] at e; cases e.2), if_pos ⟨h6, hx0⟩]
                          refine fin Fr0 (i : Int) 11 _ ?_
                          rw [← hdec, hnx, hSe, if_pos (by show (11 : Int) ≠ 0; omega)]
                        · refine acond_f (beq_eq_false_iff_ne.2 hx0) ?_
                          conv => whnf
                          have hSok : S = (0, raw ++ [x], last, 0) := by rw [← hS]; unfold stp; rw [if_neg hr5, if_neg hs0, if_neg h4, if_neg (fun e => by rw [hrb] at e; cases e.2), if_neg (fun e => hx0 e.2)]
                          refine ⟨⟨by omega, by omega⟩, ?_⟩
                          conv => whnf
                          refine aget_num (i := i) (by omega) hget ?_
                          conv => whnf
                          refine ⟨by show 0 + raw.length * 1 ≤ (ints raw).length; rw [nums_length]; omega, ?_⟩
                          conv => whnf
                          refine ⟨by show 1 ≤ (1 : Nat); omega, ?_⟩
                          conv => whnf
                          refine ⟨rfl, by (try dsimp only); omega, by omega, fun g hg => ?_⟩
                          conv => whnf
                          have hR : S.2.1 = raw ++ [x] := by rw [hSok]
                          have hrl : (raw ++ [x]).length = raw.length + 1 := by rw [List.length_append]; rfl
                          have hst0 : S.1 = 0 := by rw [hSok]
                          obtain ⟨o1, o2, o3, o4, o5, o6⟩ := hstp hst0
                          rw [hR] at o1 o2 o4 o5 o6
                          have hblk : List.take (raw.length * 1) (List.drop 0 (ints raw)) ++ ints [x] = ints (raw ++ [x]) := by
                            rw [List.drop_zero, Nat.mul_one, List.take_of_length_le (by rw [nums_length]; omega), ← nums_append]
                          refine ACall.frameH [] [5] rfl (args' := [.rs (ints (raw ++ [x])) 0 1 (raw ++ [x]).length]) (Hc := []) (by show [AV.rs (subs _ (List.take (raw.length * 1) (List.drop 0 (ints raw)) ++ ints [x])) 0 1 (raw.length + 1)] = _; rw [hblk, subs_nums, hrl]) rfl (rnext_spec (raw ++ [x]) o1 (by omega)) ?_
                          rintro r H ⟨⟨j, rfl⟩, rfl⟩
                          refine ⟨.inr ⟨rfl, rfl⟩, [.c Fr0.cells, .c Fr0.cells, .dead, .c (ints want), .c (ints [x]), .c (ints (raw ++ [x]))], (by show [_, _, _, _, _, Blk.c (List.take (raw.length * 1) (List.drop 0 (ints raw)) ++ ints [x])] = _; rw [hblk]; rfl), ?_⟩
                          conv => whnf
                          by_cases h9 : kn (raw ++ [x]) = 9
                          · obtain ⟨hw9, hlen9⟩ := kn_done h9
                            refine acond_t (beq_iff_eq.2 h9) ?_
                            conv => whnf
                            refine ACall.frameH [] [5] rfl (args' := [.rs (ints (raw ++ [x])) 0 1 (raw ++ [x]).length]) (Hc := []) (by show [AV.rs (subs _ (ints _)) 0 1 (raw.length + 1)] = _; rw [subs_nums, hrl]) rfl (rframe_spec (raw ++ [x]) o1 (by omega) hw9 (by omega) o4) ?_
                            rintro r H ⟨rfl, rfl⟩
                            refine ⟨.inr ⟨rfl, rfl⟩, [.c Fr0.cells, .c Fr0.cells, .dead, .c (ints want), .c (ints [x]), .c (ints (raw ++ [x]))], rfl, ?_⟩
                            conv => whnf
                            refine ⟨by show 0 + 12 ≤ 12; omega, ?_⟩
                            conv => whnf
                            refine ⟨by show 0 + 12 ≤ 12; omega, ?_⟩
                            conv => whnf
                            rw [w64 (x := (i : Int) + 1) (by omega) (by omega)]
                            refine fin (frL (raw ++ [x])) ((i : Int) + 1) 0 _ ?_
                            rw [← hdec, hnx, if_neg (fun e => e hst0), hR, if_pos h9]
                          · refine acond_f (beq_eq_false_iff_ne.2 h9) ?_
                            conv => whnf
                            refine Gh.regs [8, 7, 6, 5, 2, 0] (Gh.sel [0, 1, 5] rfl (Gh.of ⟨L.length - (i + 1), by omega, i + 1, raw ++ [x], last, 0, by omega, rfl, ?_, ⟨o1, o2, h9, by omega, o4, fun e => absurd e o6⟩, by omega, .inr ⟨o6, by omega, .inr ⟨rfl, kn_high6 hk5 h9 o2⟩, g, by rw [hrl]; exact hg, (by show [_, _, Blk.c (subs _ (ints _))] = _; rw [subs_nums]; rfl), ?_⟩⟩))
                            · rw [← hdec, hnx, if_neg (fun e => e hst0), hR, if_neg h9, hSok]; rfl
                            · refine keep_eq (show keepR _ _ = [_, _, _, _, _, _] from rfl) ?_
                              simp only [subG, sub, subs_nums]
                              rw [w64 (by omega) (by omega), hrl]; rfl
                · refine acond_f (beq_eq_false_iff_ne.2 h5) ?_
                  conv => whnf
                  by_cases h6 : kn raw = 6
                  · have h6b : (kn raw != 6) = false := bne_eq_false_iff_eq.2 h6
                    repeat (refine acond_f h6b ?_; conv => whnf)
                    have hSok : S = (0, raw ++ [x], last, 0) := by rw [← hS]; unfold stp; rw [if_neg hr5, if_neg hs0, if_neg h4, if_neg (fun e => h5 e.1), if_neg (fun e => e.1 h6)]
                    refine ⟨⟨by omega, by omega⟩, ?_⟩
                    conv => whnf
                    refine aget_num (i := i) (by omega) hget ?_
                    conv => whnf
                    refine ⟨by show 0 + raw.length * 1 ≤ (ints raw).length; rw [nums_length]; omega, ?_⟩
                    conv => whnf
                    refine ⟨by show 1 ≤ (1 : Nat); omega, ?_⟩
                    conv => whnf
                    refine ⟨rfl, by (try dsimp only); omega, by omega, fun g hg => ?_⟩
                    conv => whnf
                    have hR : S.2.1 = raw ++ [x] := by rw [hSok]
                    have hrl : (raw ++ [x]).length = raw.length + 1 := by rw [List.length_append]; rfl
                    have hst0 : S.1 = 0 := by rw [hSok]
                    obtain ⟨o1, o2, o3, o4, o5, o6⟩ := hstp hst0
                    rw [hR] at o1 o2 o4 o5 o6
                    have hblk : List.take (raw.length * 1) (List.drop 0 (ints raw)) ++ ints [x] = ints (raw ++ [x]) := by
                      rw [List.drop_zero, Nat.mul_one, List.take_of_length_le (by rw [nums_length]; omega), ← nums_append]
                    refine ACall.frameH [] [4] rfl (args' := [.rs (ints (raw ++ [x])) 0 1 (raw ++ [x]).length]) (Hc := []) (by show [AV.rs (subs _ (List.take (raw.length * 1) (List.drop 0 (ints raw)) ++ ints [x])) 0 1 (raw.length + 1)] = _; rw [hblk, subs_nums, hrl]) rfl (rnext_spec (raw ++ [x]) o1 (by omega)) ?_
                    rintro r H ⟨⟨j, rfl⟩, rfl⟩
                    refine ⟨.inr ⟨rfl, rfl⟩, [.c Fr0.cells, .c Fr0.cells, .dead, .c (ints [x]), .c (ints (raw ++ [x]))], (by show [_, _, _, _, Blk.c (List.take (raw.length * 1) (List.drop 0 (ints raw)) ++ ints [x])] = _; rw [hblk]; rfl), ?_⟩
                    conv => whnf
                    by_cases h9 : kn (raw ++ [x]) = 9
                    · obtain ⟨hw9, hlen9⟩ := kn_done h9
                      refine acond_t (beq_iff_eq.2 h9) ?_
                      conv => whnf
                      refine ACall.frameH [] [4] rfl (args' := [.rs (ints (raw ++ [x])) 0 1 (raw ++ [x]).length]) (Hc := []) (by show [AV.rs (subs _ (ints _)) 0 1 (raw.length + 1)] = _; rw [subs_nums, hrl]) rfl (rframe_spec (raw ++ [x]) o1 (by omega) hw9 (by omega) o4) ?_
                      rintro r H ⟨rfl, rfl⟩
                      refine ⟨.inr ⟨rfl, rfl⟩, [.c Fr0.cells, .c Fr0.cells, .dead, .c (ints [x]), .c (ints (raw ++ [x]))], rfl, ?_⟩
                      conv => whnf
                      refine ⟨by show 0 + 12 ≤ 12; omega, ?_⟩
                      conv => whnf
                      refine ⟨by show 0 + 12 ≤ 12; omega, ?_⟩
                      conv => whnf
                      rw [w64 (x := (i : Int) + 1) (by omega) (by omega)]
                      refine fin (frL (raw ++ [x])) ((i : Int) + 1) 0 _ ?_
                      rw [← hdec, hnx, if_neg (fun e => e hst0), hR, if_pos h9]
                    · refine acond_f (beq_eq_false_iff_ne.2 h9) ?_
                      conv => whnf
                      refine Gh.regs [8, 7, 6, 5, 2, 0] (Gh.sel [0, 1, 4] rfl (Gh.of ⟨L.length - (i + 1), by omega, i + 1, raw ++ [x], last, 0, by omega, rfl, ?_, ⟨o1, o2, h9, by omega, o4, fun e => absurd e o6⟩, by omega, .inr ⟨o6, by omega, .inr ⟨rfl, kn_high6 hk5 h9 o2⟩, g, by rw [hrl]; exact hg, (by show [_, _, Blk.c (subs _ (ints _))] = _; rw [subs_nums]; rfl), ?_⟩⟩))
                      · rw [← hdec, hnx, if_neg (fun e => e hst0), hR, if_neg h9, hSok]; rfl
                      · refine keep_eq (show keepR _ _ = [_, _, _, _, _, _] from rfl) ?_
                        simp only [subG, sub, subs_nums]
                        rw [w64 (by omega) (by omega), hrl]; rfl
                  · have h6b : (kn raw != 6) = true := bne_iff_ne.2 h6
                    repeat (refine acond_t h6b ?_; conv => whnf)
                    refine ⟨⟨by omega, by omega⟩, ?_⟩
                    conv => whnf
                    repeat (refine acond_t h6b ?_; conv => whnf)
                    refine aget_num (i := i) (by omega) hget ?_
                    conv => whnf
                    repeat (refine acond_t h6b ?_; conv => whnf)
                    by_cases hx0 : x = 0
                    · refine acond_t (beq_iff_eq.2 hx0) ?_
                      conv => whnf
                      refine ⟨by show 0 + 12 ≤ 12; omega, ?_⟩
                      conv => whnf
                      have hSe : S = (11, raw, last, 0) := by rw [← hS]; unfold stp; rw [if_neg hr5, if_neg hs0, if_neg h4, if_neg (fun e => h5 e.1), if_pos ⟨h6, hx0⟩]
                      refine fin Fr0 (i : Int) 11 _ ?_
                      rw [← hdec, hnx, hSe, if_pos (by show (11 : Int) ≠ 0; omega)]
                    · refine acond_f (beq_eq_false_iff_ne.2 hx0) ?_
                      conv => whnf
                      have hSok : S = (0, raw ++ [x], last, 0) := by rw [← hS]; unfold stp; rw [if_neg hr5, if_neg hs0, if_neg h4, if_neg (fun e => h5 e.1), if_neg (fun e => hx0 e.2)]
                      refine ⟨⟨by omega, by omega⟩, ?_⟩
                      conv => whnf
                      refine aget_num (i := i) (by omega) hget ?_
                      conv => whnf
                      refine ⟨by show 0 + raw.length * 1 ≤ (ints raw).length; rw [nums_length]; omega, ?_⟩
                      conv => whnf
                      refine ⟨by show 1 ≤ (1 : Nat); omega, ?_⟩
                      conv => whnf
                      refine ⟨rfl, by (try dsimp only); omega, by omega, fun g hg => ?_⟩
                      conv => whnf
                      have hR : S.2.1 = raw ++ [x] := by rw [hSok]
                      have hrl : (raw ++ [x]).length = raw.length + 1 := by rw [List.length_append]; rfl
                      have hst0 : S.1 = 0 := by rw [hSok]
                      obtain ⟨o1, o2, o3, o4, o5, o6⟩ := hstp hst0
                      rw [hR] at o1 o2 o4 o5 o6
                      have hblk : List.take (raw.length * 1) (List.drop 0 (ints raw)) ++ ints [x] = ints (raw ++ [x]) := by
                        rw [List.drop_zero, Nat.mul_one, List.take_of_length_le (by rw [nums_length]; omega), ← nums_append]
                      refine ACall.frameH [] [4] rfl (args' := [.rs (ints (raw ++ [x])) 0 1 (raw ++ [x]).length]) (Hc := []) (by show [AV.rs (subs _ (List.take (raw.length * 1) (List.drop 0 (ints raw)) ++ ints [x])) 0 1 (raw.length + 1)] = _; rw [hblk, subs_nums, hrl]) rfl (rnext_spec (raw ++ [x]) o1 (by omega)) ?_
                      rintro r H ⟨⟨j, rfl⟩, rfl⟩
                      refine ⟨.inr ⟨rfl, rfl⟩, [.c Fr0.cells, .c Fr0.cells, .dead, .c (ints [x]), .c (ints (raw ++ [x]))], (by show [_, _, _, _, Blk.c (List.take (raw.length * 1) (List.drop 0 (ints raw)) ++ ints [x])] = _; rw [hblk]; rfl), ?_⟩
                      conv => whnf
                      by_cases h9 : kn (raw ++ [x]) = 9
                      · obtain ⟨hw9, hlen9⟩ := kn_done h9
                        refine acond_t (beq_iff_eq.2 h9) ?_
                        conv => whnf
                        refine ACall.frameH [] [4] rfl (args' := [.rs (ints (raw ++ [x])) 0 1 (raw ++ [x]).length]) (Hc := []) (by show [AV.rs (subs _ (ints _)) 0 1 (raw.length + 1)] = _; rw [subs_nums, hrl]) rfl (rframe_spec (raw ++ [x]) o1 (by omega) hw9 (by omega) o4) ?_
                        rintro r H ⟨rfl, rfl⟩
                        refine ⟨.inr ⟨rfl, rfl⟩, [.c Fr0.cells, .c Fr0.cells, .dead, .c (ints [x]), .c (ints (raw ++ [x]))], rfl, ?_⟩
                        conv => whnf
                        refine ⟨by show 0 + 12 ≤ 12; omega, ?_⟩
                        conv => whnf
                        refine ⟨by show 0 + 12 ≤ 12; omega, ?_⟩
                        conv => whnf
                        rw [w64 (x := (i : Int) + 1) (by omega) (by omega)]
                        refine fin (frL (raw ++ [x])) ((i : Int) + 1) 0 _ ?_
                        rw [← hdec, hnx, if_neg (fun e => e hst0), hR, if_pos h9]
                      · refine acond_f (beq_eq_false_iff_ne.2 h9) ?_
                        conv => whnf
                        refine Gh.regs [8, 7, 6, 5, 2, 0] (Gh.sel [0, 1, 4] rfl (Gh.of ⟨L.length - (i + 1), by omega, i + 1, raw ++ [x], last, 0, by omega, rfl, ?_, ⟨o1, o2, h9, by omega, o4, fun e => absurd e o6⟩, by omega, .inr ⟨o6, by omega, .inr ⟨rfl, kn_high6 hk5 h9 o2⟩, g, by rw [hrl]; exact hg, (by show [_, _, Blk.c (subs _ (ints _))] = _; rw [subs_nums]; rfl), ?_⟩⟩))
                        · rw [← hdec, hnx, if_neg (fun e => e hst0), hR, if_neg h9, hSok]; rfl
                        · refine keep_eq (show keepR _ _ = [_, _, _, _, _, _] from rfl) ?_
                          simp only [subG, sub, subs_nums]
                          rw [w64 (by omega) (by omega), hrl]; rfl
      · -- no level
        have hie : i = (lvP L).length := by omega
        have hll : (lvP L).length < L.length := by omega
        have hd2 : dec L = (Fr0, (i : Int), 10) := by
          rw [← hdec, hie, List.drop_length, hfe, if_pos hll]; rfl
        obtain ⟨hget, hbad⟩ := lvP_next hll
        rw [← hie] at hget hbad
        generalize hX : L.getD i 0 = x at hget hbad
        have hb0 : (x != 0) = true := bne_iff_ne.2 (fun e => hbad (.inl e))
        have hb1 : (x != 1) = true := bne_iff_ne.2 (fun e => hbad (.inr e))
        rcases hst with ⟨hz, hi0, hl0, hr0, rfl, rfl⟩ | ⟨hne, hi0, hph, c, hc, rfl, rfl⟩
        all_goals
          conv => whnf
          refine acond_t (decide_eq_true h) ?_
          conv => whnf
          refine ⟨⟨by omega, h⟩, ?_⟩
          conv => whnf
          refine aget_num (i := i) (by omega) hget ?_
          conv => whnf
          repeat (refine acond_t hb0 ?_; conv => whnf)
          refine ⟨⟨by omega, by omega⟩, ?_⟩
          conv => whnf
          repeat (refine acond_t hb0 ?_; conv => whnf)
          refine aget_num (i := i) (by omega) hget ?_
          conv => whnf
          repeat (refine acond_t hb0 ?_; conv => whnf)
          repeat (refine acond_t hb1 ?_; conv => whnf)
          refine ⟨by show 0 + 12 ≤ 12; omega, ?_⟩
          conv => whnf
          exact fin Fr0 _ 10 _ hd2
    · have hie : i = (lvP L).length := by omega
      have hd2 : dec L = (Fr0, (L.length : Int), 13) := by
        rw [← hdec, hie, List.drop_length, hfe, if_neg (by omega)]
        show (Fr0, (((lvP L).length : Nat) : Int), (13 : Int)) = _
        rw [show (lvP L).length = L.length from by omega]
      rcases hst with ⟨hz, hi0, hl0, hr0, rfl, rfl⟩ | ⟨hne, hi0, hph, c, hc, rfl, rfl⟩
      all_goals
        conv => whnf
        refine acond_f (decide_eq_false h) ?_
        conv => whnf
        refine ⟨by show 0 + 12 ≤ 12; omega, ?_⟩
        conv => whnf
        exact fin Fr0 _ 13 _ hd2
end Go.AK
namespace Go.AK
open Go Go.RowKit Go.Proofs
set_option linter.unusedVariables false
set_option maxRecDepth 100000
theorem lawDecodes (L : List Int) : ACall Try.prog 3 [.rs (ints L) 0 1 L.length] [] fun r H => r = .ret (.b true) ∧ H = [] := by
  refine ACall.gh ?_
  refine ACall.enter tok false Try.func3 rfl rfl rfl (AW_sound (ip := false) tok _ _ _ _ ?_)
  conv => whnf
  by_cases g : (L.length : Int) > 200
  · refine acond_t (decide_eq_true g) ?_
    conv => whnf
    refine ACall.mono awake6_spec ?_; rintro r H ⟨rfl, rfl⟩
    conv => whnf
    exact GhR.of ⟨rfl, rfl⟩
  refine acond_f (decide_eq_false g) ?_
  conv => whnf
  have h1 := decode_spec L (by omega)
  have h2 := rdecode_spec L (by omega)
  generalize dec L = D at h1 h2
  obtain ⟨F, n, e⟩ := D
  dsimp only at h1 h2
  refine ACall.mono h1 ?_; rintro r H ⟨rfl, rfl⟩
  conv => whnf
  refine ⟨by show 0 + 12 ≤ 12; omega, ?_⟩
  conv => whnf
  refine ACall.frameH [] [] rfl (args' := [.rs (ints L) 0 1 L.length]) (Hc := []) (by show [AV.rs (subs _ (ints _)) _ _ _] = _; first | (rw [subs_nums]; done) | (rw [subs_nums]; rfl)) rfl h2 ?_
  rintro r H ⟨rfl, rfl⟩
  refine ⟨.inl rfl, [.c F.cells], rfl, ?_⟩
  conv => whnf
  refine ⟨by show 0 + 12 ≤ 12; omega, ?_⟩
  conv => whnf
  refine ⟨flatFrame, ?_⟩
  conv => whnf
  have hnn : (n == n) = true := beq_self_eq_true _
  have hee : (e == e) = true := beq_self_eq_true _
  repeat (first | (refine acond_t (frSame F) ?_; conv => whnf) | (refine acond_t hnn ?_; conv => whnf) | (refine acond_t hee ?_; conv => whnf))
  refine ACall.frameH [] [] rfl (args' := []) (Hc := []) rfl rfl awake6_spec ?_
  rintro r H ⟨rfl, rfl⟩
  refine ⟨.inl rfl, [.c F.cells, .c F.cells], rfl, ?_⟩
  conv => whnf
  repeat (first | (refine acond_t (frSame F) ?_; conv => whnf) | (refine acond_t hnn ?_; conv => whnf) | (refine acond_t hee ?_; conv => whnf))
  exact GhR.sel [] rfl (GhR.of ⟨rfl, rfl⟩)
end Go.AK
namespace Go.AK
open Go Go.RowKit Go.Proofs
set_option linter.unusedVariables false
set_option maxRecDepth 100000
theorem okT_ints : ∀ fuel, okT T fuel 22 = true
  | 0 => rfl
  | 1 => rfl
  | n + 2 => rfl
theorem WT_i64 : ∀ {n : Nat} {ys : List AV}, WT T n 3 ys → ∃ m, ys = [.i .i64 m] ∧ (Lit.int .i64 m).wf = true
  | 0, _, h => h.elim
  | n + 1, ys, h => h
theorem WT_ints : ∀ {fuel : Nat} {xs : List AV}, WT T fuel 22 xs → ∃ L : List Int, xs = [.rs (ints L) 0 1 L.length] ∧ L.length ≤ maxLen ∧ ∀ x ∈ L, (Lit.int .i64 x).wf = true
  | 0, _, h => h.elim
  | n + 1, xs, h => by
    obtain ⟨m, cs, hx, hm, hc⟩ := (show ∃ m cs, xs = [AV.rs cs 0 1 m] ∧ m ≤ maxLen ∧ WTs (WT T n) (List.replicate m 3) cs from h)
    obtain ⟨L, hL, hl, hw⟩ := WTs_ints (fun ys => WT_i64) m cs hc
    subst hL
    exact ⟨L, by rw [hx, hl], by omega, hw⟩
theorem okT_frame : ∀ fuel, okT T fuel 26 = true
  | 0 => rfl
  | 1 => rfl
  | 2 => rfl
  | n + 3 => rfl
theorem okT_frames : ∀ fuel, okT T fuel 36 = true
  | 0 => rfl
  | 1 => rfl
  | 2 => rfl
  | 3 => rfl
  | n + 4 => rfl
theorem i64_in {n : Int} (h : (Lit.int .i64 n).wf = true) : -9223372036854775808 ≤ n ∧ n ≤ 9223372036854775807 := by
  have := Bool.and_eq_true_iff.1 (show (decide (IntKind.min .i64 ≤ n) && decide (n ≤ IntKind.max .i64)) = true from h)
  exact ⟨of_decide_eq_true this.1, of_decide_eq_true this.2⟩
theorem u8_in {n : Int} (h : (Lit.int .u8 n).wf = true) : 0 ≤ n ∧ n < 256 := by
  have := Bool.and_eq_true_iff.1 (show (decide (IntKind.min .u8 ≤ n) && decide (n ≤ IntKind.max .u8)) = true from h)
  have h1 : (0 : Int) ≤ n := of_decide_eq_true this.1
  have h2 : n ≤ (255 : Int) := of_decide_eq_true this.2
  omega
theorem WT_frame : ∀ {fuel : Nat} {xs : List AV}, WT T fuel 26 xs → ∃ F : Fr, xs = F.cells ∧ F.ok
  | 0, _, h => h.elim
  | 1, xs, h => by
    obtain ⟨ys, zs, _, h1, _⟩ := (show WTs (WT T 0) [3, 4, 4, 3, 24] xs from h)
    exact h1.elim
  | 2, xs, h => by
    obtain ⟨y0, z0, rfl, h0, h⟩ := (show WTs (WT T 1) [3, 4, 4, 3, 24] xs from h)
    obtain ⟨y1, z1, rfl, h1, h⟩ := h
    obtain ⟨y2, z2, rfl, h2, h⟩ := h
    obtain ⟨y3, z3, rfl, h3, h⟩ := h
    obtain ⟨y4, z4, rfl, h4, h⟩ := h
    obtain ⟨a, b, _, h5, _⟩ := (show WTs (WT T 0) (List.replicate 8 5) y4 from h4)
    exact h5.elim
  | n + 3, xs, h => by
    obtain ⟨y0, z0, rfl, h0, h⟩ := (show WTs (WT T (n + 2)) [3, 4, 4, 3, 24] xs from h)
    obtain ⟨y1, z1, rfl, h1, h⟩ := h
    obtain ⟨y2, z2, rfl, h2, h⟩ := h
    obtain ⟨y3, z3, rfl, h3, h⟩ := h
    obtain ⟨y4, z4, rfl, h4, h⟩ := h
    obtain rfl := (show z4 = [] from h)
    obtain ⟨id, rfl, w0⟩ := (show ∃ m, y0 = [.i .i64 m] ∧ (Lit.int .i64 m).wf = true from h0)
    obtain ⟨ext, rfl⟩ := (show ∃ b, y1 = [.b b] from h1)
    obtain ⟨rtr, rfl⟩ := (show ∃ b, y2 = [.b b] from h2)
    obtain ⟨len, rfl, w3⟩ := (show ∃ m, y3 = [.i .i64 m] ∧ (Lit.int .i64 m).wf = true from h3)
    obtain ⟨L, hL, hl, hw⟩ := WTs_ints (T := T) (n := n + 1) (e := 5) (k := .u8) (fun ys hy => (show ∃ m, ys = [.i .u8 m] ∧ (Lit.int .u8 m).wf = true from hy)) 8 y4 (show WTs (WT T (n + 1)) (List.replicate 8 5) y4 from h4)
    subst hL
    obtain ⟨b0, b1, b2, b3, b4, b5, b6, b7, rfl⟩ : ∃ b0 b1 b2 b3 b4 b5 b6 b7, L = [b0, b1, b2, b3, b4, b5, b6, b7] := by
      match L, hl with
      | [a, b, c, d, e, f, g, h], _ => exact ⟨a, b, c, d, e, f, g, h, rfl⟩
    exact ⟨⟨id, ext, rtr, len, b0, b1, b2, b3, b4, b5, b6, b7⟩, rfl, i64_in w0, i64_in w3, fun x hx => u8_in (hw x hx)⟩
theorem WTs_frames {n : Nat} : ∀ (m : Nat) (cs : List AV), WTs (WT T n) (List.replicate m 26) cs → ∃ L : List Fr, cs = frs L ∧ L.length = m ∧ ∀ F ∈ L, F.ok
  | 0, cs, hc => ⟨[], (show cs = [] from hc), rfl, fun x hx => by cases hx⟩
  | m + 1, cs, hc => by
    rw [List.replicate_succ] at hc
    obtain ⟨ys, zs, rfl, h1, h2⟩ := hc
    obtain ⟨F, rfl, hF⟩ := WT_frame h1
    obtain ⟨L, rfl, hl, hL⟩ := WTs_frames m zs h2
    refine ⟨F :: L, rfl, by simp [hl], fun y hy => ?_⟩
    rcases List.mem_cons.1 hy with rfl | hy
    · exact hF
    · exact hL y hy
theorem WT_frames : ∀ {fuel : Nat} {xs : List AV}, WT T fuel 36 xs → ∃ l : List Fr, xs = [.rs (frs l) 0 12 l.length] ∧ l.length ≤ maxLen ∧ ∀ F ∈ l, F.ok
  | 0, _, h => h.elim
  | n + 1, xs, h => by
    obtain ⟨m, cs, hx, hm, hc⟩ := (show ∃ m cs, xs = [AV.rs cs 0 12 m] ∧ m ≤ maxLen ∧ WTs (WT T n) (List.replicate m 26) cs from h)
    obtain ⟨L, hL, hl, hw⟩ := WTs_frames m cs hc
    subst hL
    exact ⟨L, by rw [hx, hl], by omega, hw⟩
end Go.AK
