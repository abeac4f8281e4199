import Derived.Test.YtmhagleekhihoaaSOrdP
namespace Go.AK
open Go Go.RowKit Go.Proofs
set_option linter.unusedVariables false
set_option maxRecDepth 100000
set_option maxHeartbeats 1000000 in
theorem wins_spec (l : List Fr) (hl : l.length ≤ 12) (hm : ∀ F ∈ l, F.may) (hne : leftL l ≠ []) :
    ACall Try.prog 41 [.rs (frs l) 0 12 l.length] [] fun r H => r = .ret (.i .i64 ((leftL l).getD 0 0)) ∧ H = [] := by
  refine ACall.gh ?_
  refine ACall.enter tok false Try.func41 rfl rfl rfl (AW_sound (ip := false) tok _ _ _ _ ?_)
  conv => whnf
  generalize hB : AV.rs (frs l) 0 12 l.length = B
  have hsub : ∀ φ, sub φ B = B := fun φ => by subst hB; simp only [sub, subs_frs]
  refine ALoop.ind (ip := false) tok (fun m r H => ∃ (k c : Nat), k ≤ l.length ∧ m = l.length - k ∧ k ≤ c ∧ H = [.c (ints (iota k))] ∧
    r = [(4, .i .i64 k), (3, .sl (some (0, 0)) 1 k c), (0, B)]) l.length ?_ ?_
  · exact Gh.regs [4, 3, 0] (Gh.of ⟨0, 0, by omega, by omega, by omega, rfl, rfl⟩)
  · rintro m r H ⟨k, c, hk, rfl, hc, rfl, rfl⟩
    subst hB
    conv => whnf
    by_cases h : (k : Int) < l.length
    · rw [decide_eq_true h]
      conv => whnf
      refine ⟨by dsimp only; rw [nums_length, iota_length]; omega, ?_⟩
      conv => whnf
      refine ⟨by show 1 ≤ (1 : Nat); omega, ?_⟩
      conv => whnf
      refine ⟨rfl, by (try dsimp only); omega, by (try dsimp only); omega, fun c2 hc2 => ?_⟩
      conv => whnf
      rw [w64 (by omega) (by omega)]
      refine Gh.regs [4, 3, 0] (Gh.sel [2] rfl (Gh.of ⟨l.length - (k + 1), by omega, k + 1, c2, by omega, rfl, by omega, ?_, ?_⟩))
      · show [Blk.c (subs _ (List.take (k * 1) (List.drop 0 (ints (iota k))) ++ ints [(k : Int)]))] = _
        rw [List.drop_zero, List.take_of_length_le (by rw [nums_length, iota_length]; omega), ← nums_append, subs_nums, iota_succ]
      · refine keep_eq (show keepR _ _ = [_, _, _] from rfl) ?_
        simp only [subG, sub, subs_frs]
        rfl
    · rw [decide_eq_false h]
      conv => whnf
      have : k = l.length := by omega
      subst this
      have hrow32 : ∀ i, (at_ l i).row.length ≤ 32 := fun i => Fr.row_le _
      refine ALoop.ind (ip := false) tok (fun m r H => ∃ (k c : Nat) (left : List Int), k ≤ 32 ∧ m = 32 - k ∧ left.length ≤ c ∧ left.length ≤ 12 ∧ Plc l.length left ∧ leftL l = leftFrom l (32 - k) k left ∧ H = [.c (ints left)] ∧
        r = [(5, .i .i64 k), (3, .sl (some (0, 0)) 1 left.length c), (0, .rs (frs l) 0 12 l.length)]) 32 ?_ ?_
      · refine Gh.regs [5, 3, 0] (Gh.of ⟨0, c, iota l.length, by omega, rfl, by rw [iota_length]; exact hc, by rw [iota_length]; exact hl, iota_plc _, rfl, rfl, ?_⟩)
        rw [iota_length]; rfl
      · rintro m r H ⟨k, c, left, hk, rfl, hc, hl12, hp, hrun, rfl, rfl⟩
        conv => whnf
        by_cases h1 : (k : Int) < 32
        · rw [decide_eq_true h1]
          conv => whnf
          by_cases h2 : (left.length : Int) > 1
          · rw [decide_eq_true h2]
            conv => whnf
            refine ALoop.ind (ip := false) tok (fun m r H => ∃ (j : Nat), j ≤ left.length ∧ m = left.length - j ∧ H = [.c (ints left)] ∧
              r = [(7, .i .i64 j), (6, .i .i64 (wireAt l k (left.take j))), (5, .i .i64 k), (3, .sl (some (0, 0)) 1 left.length c), (0, .rs (frs l) 0 12 l.length)]) left.length ?_ ?_
            · exact Gh.regs [7, 6, 5, 3, 0] (Gh.of ⟨0, by omega, by omega, rfl, rfl⟩)
            · rintro m r H ⟨j, hj, rfl, rfl, rfl⟩
              by_cases h3 : (j : Int) < left.length
              · have hjl : j < left.length := by omega
                obtain ⟨x, hx, hxl⟩ := plc_get hp hjl
                conv => whnf
                rw [decide_eq_true h3]
                conv => whnf
                refine ⟨⟨by omega, h3⟩, ?_⟩
                conv => whnf
                refine aget_num (i := j) (by omega) hx ?_
                conv => whnf
                refine ⟨⟨by omega, by omega⟩, ?_⟩
                conv => whnf
                refine aget_fr (k := x) (by omega) hxl ?_
                conv => whnf
                refine ACall.frame [] [] rfl (args' := [l[x].av]) (Hc := []) rfl rfl (arb3_spec l[x] (hm _ (List.getElem_mem _))) ?_
                rintro r H ⟨d, hd, rfl, rfl⟩
                refine ⟨.inl rfl, ?_⟩
                conv => whnf
                have hlv : lvl l x k = l[x].row[k]? := by unfold lvl; rw [at_get l x hxl]
                by_cases h4 : (k : Int) < l[x].row.length
                · refine acond_t (decide_eq_true h4) ?_
                  have hk4 : k < l[x].row.length := by omega
                  have hr4 := List.getElem?_eq_getElem hk4
                  rw [hr4] at hlv
                  conv => whnf
                  repeat (refine acond_t (decide_eq_true h4) ?_; conv => whnf)
                  refine ⟨⟨by omega, by omega⟩, ?_⟩
                  conv => whnf
                  repeat (refine acond_t (decide_eq_true h4) ?_; conv => whnf)
                  refine aget_numS (i := k) (by omega) hr4 ?_
                  conv => whnf
                  repeat (refine acond_t (decide_eq_true h4) ?_; conv => whnf)
                  by_cases h5 : l[x].row[k] = 0
                  · refine acond_t (beq_iff_eq.2 h5) ?_
                    conv => whnf
                    refine Gh.regs [7, 6, 5, 3, 0] (Gh.sel [0] rfl (Gh.of ⟨left.length - (j + 1), by omega, j + 1, by omega, rfl, ?_, ?_⟩))
                    · show [Blk.c (subs _ (ints left))] = _
                      rw [subs_nums]
                    · rw [wire_zero hx (by rw [hlv, h5])]
                      refine keep_eq (show keepR _ _ = [_, _, _, _, _] from rfl) ?_
                      simp only [subG, sub, subs_frs]
                      rw [w64 (by omega) (by omega)]
                      rfl
                  · refine acond_f (beq_eq_false_iff_ne.2 h5) ?_
                    conv => whnf
                    refine Gh.regs [7, 6, 5, 3, 0] (Gh.sel [0] rfl (Gh.of ⟨left.length - (j + 1), by omega, j + 1, by omega, rfl, ?_, ?_⟩))
                    · show [Blk.c (subs _ (ints left))] = _
                      rw [subs_nums]
                    · rw [wire_same hx (by rw [hlv]; intro h; exact h5 (Option.some.inj h))]
                      refine keep_eq (show keepR _ _ = [_, _, _, _, _] from rfl) ?_
                      simp only [subG, sub, subs_frs]
                      rw [w64 (by omega) (by omega)]
                      rfl
                · refine acond_f (decide_eq_false h4) ?_
                  have hr4 := List.getElem?_eq_none (show l[x].row.length ≤ k by omega)
                  rw [hr4] at hlv
                  conv => whnf
                  repeat (refine acond_f (decide_eq_false h4) ?_; conv => whnf)
                  refine Gh.regs [7, 6, 5, 3, 0] (Gh.sel [0] rfl (Gh.of ⟨left.length - (j + 1), by omega, j + 1, by omega, rfl, ?_, ?_⟩))
                  · show [Blk.c (subs _ (ints left))] = _
                    rw [subs_nums]
                  · rw [wire_same hx (by rw [hlv]; intro h; cases h)]
                    refine keep_eq (show keepR _ _ = [_, _, _, _, _] from rfl) ?_
                    simp only [subG, sub, subs_frs]
                    rw [w64 (by omega) (by omega)]
                    rfl
              · have hjl : j = left.length := by omega
                subst hjl
                conv => whnf
                rw [decide_eq_false h3]
                conv => whnf
                rw [List.take_length]
                generalize hw : wireAt l k left = w
                refine ALoop.ind (ip := false) tok (fun m r H => ∃ (j d : Nat), j ≤ left.length ∧ m = left.length - j ∧ (stayAt l k w (left.take j)).length ≤ d ∧ H = [.c (ints left), .c (ints (stayAt l k w (left.take j)))] ∧
                  r = [(10, .i .i64 j), (9, .sl (some (1, 0)) 1 (stayAt l k w (left.take j)).length d), (6, .i .i64 w), (5, .i .i64 k), (3, .sl (some (0, 0)) 1 left.length c), (0, .rs (frs l) 0 12 l.length)]) left.length ?_ ?_
                · exact Gh.regs [10, 9, 6, 5, 3, 0] (Gh.of ⟨0, 0, by omega, by omega, Nat.le_refl _, rfl, rfl⟩)
                · rintro m r H ⟨j, d, hj, rfl, hd, rfl, rfl⟩
                  have hsl : (stayAt l k w (left.take j)).length ≤ j := Nat.le_trans (List.length_filter_le _ _) (by rw [List.length_take]; omega)
                  have hsn : (nums .i64 (stayAt l k w (left.take j))).length = (stayAt l k w (left.take j)).length := nums_length _ _
                  by_cases h3 : (j : Int) < left.length
                  · have hjl : j < left.length := by omega
                    obtain ⟨x, hx, hxl⟩ := plc_get hp hjl
                    have hlv : lvl l x k = l[x].row[k]? := by unfold lvl; rw [at_get l x hxl]
                    conv => whnf
                    refine acond_t (decide_eq_true h3) ?_
                    conv => whnf
                    refine ⟨⟨by omega, h3⟩, ?_⟩
                    conv => whnf
                    refine aget_num (i := j) (by omega) hx ?_
                    conv => whnf
                    refine ⟨⟨by omega, by omega⟩, ?_⟩
                    conv => whnf
                    refine aget_fr (k := x) (by omega) hxl ?_
                    conv => whnf
                    refine ACall.frame [] [] rfl (args' := [l[x].av]) (Hc := []) rfl rfl (arb3_spec l[x] (hm _ (List.getElem_mem _))) ?_
                    rintro r H ⟨e, he, rfl, rfl⟩
                    refine ⟨.inl rfl, ?_⟩
                    conv => whnf
                    by_cases h4 : (k : Int) < l[x].row.length
                    · refine acond_t (decide_eq_true h4) ?_
                      have hk4 : k < l[x].row.length := by omega
                      have hr4 := List.getElem?_eq_getElem hk4
                      rw [hr4] at hlv
                      conv => whnf
                      repeat (refine acond_t (decide_eq_true h4) ?_; conv => whnf)
                      refine ⟨⟨by omega, by omega⟩, ?_⟩
                      conv => whnf
                      repeat (refine acond_t (decide_eq_true h4) ?_; conv => whnf)
                      refine aget_numS (i := k) (by omega) hr4 ?_
                      conv => whnf
                      repeat (refine acond_t (decide_eq_true h4) ?_; conv => whnf)
                      by_cases h5 : l[x].row[k] = w
                      · refine acond_t (beq_iff_eq.2 h5) ?_
                        conv => whnf
                        refine ⟨⟨by omega, h3⟩, ?_⟩
                        conv => whnf
                        refine aget_num (i := j) (by omega) hx ?_
                        conv => whnf
                        refine ⟨by dsimp only; rw [nums_length]; omega, ?_⟩
                        conv => whnf
                        refine ⟨by show 1 ≤ (1 : Nat); omega, ?_⟩
                        conv => whnf
                        refine ⟨rfl, by (try dsimp only); omega, by (try dsimp only); omega, fun d2 hd2 => ?_⟩
                        conv => whnf
                        have hst := stay_in hx (by rw [hlv, h5] : lvl l x k = some w)
                        refine Gh.regs [10, 9, 6, 5, 3, 0] (Gh.sel [0, 4] rfl (Gh.of ⟨left.length - (j + 1), by omega, j + 1, d2, by omega, rfl, ?_, ?_, ?_⟩))
                        · rw [hst, List.length_append]; exact hd2
                        · rw [hst]
                          show [Blk.c (subs _ (ints left)), Blk.c (subs _ (List.take ((stayAt l k w (left.take j)).length * 1) (List.drop 0 (ints _)) ++ ints [(x : Int)]))] = _
                          rw [subs_nums, List.drop_zero, List.take_of_length_le (by rw [nums_length]; omega), ← nums_append, subs_nums]
                        · rw [hst]
                          refine keep_eq (show keepR _ _ = [_, _, _, _, _, _] from rfl) ?_
                          simp only [subG, sub, subs_frs, List.length_append, List.length_singleton]
                          rw [w64 (by omega) (by omega)]
                          rfl
                      · refine acond_f (beq_eq_false_iff_ne.2 h5) ?_
                        conv => whnf
                        refine Gh.regs [10, 9, 6, 5, 3, 0] (Gh.sel [0, 1] rfl (Gh.of ⟨left.length - (j + 1), by omega, j + 1, d, by omega, rfl, ?_, ?_, ?_⟩))
                        · rw [stay_out hx (by rw [hlv]; intro h; exact h5 (Option.some.inj h))]; exact hd
                        · rw [stay_out hx (by rw [hlv]; intro h; exact h5 (Option.some.inj h))]
                          show [Blk.c (subs _ (ints left)), Blk.c (subs _ (ints _))] = _
                          rw [subs_nums, subs_nums]
                        · rw [stay_out hx (by rw [hlv]; intro h; exact h5 (Option.some.inj h))]
                          refine keep_eq (show keepR _ _ = [_, _, _, _, _, _] from rfl) ?_
                          simp only [subG, sub, subs_frs]
                          rw [w64 (by omega) (by omega)]
                          rfl
                    · refine acond_f (decide_eq_false h4) ?_
                      have hr4 := List.getElem?_eq_none (show l[x].row.length ≤ k by omega)
                      rw [hr4] at hlv
                      conv => whnf
                      repeat (refine acond_f (decide_eq_false h4) ?_; conv => whnf)
                      refine Gh.regs [10, 9, 6, 5, 3, 0] (Gh.sel [0, 1] rfl (Gh.of ⟨left.length - (j + 1), by omega, j + 1, d, by omega, rfl, ?_, ?_, ?_⟩))
                      · rw [stay_out hx (by rw [hlv]; intro h; cases h)]; exact hd
                      · rw [stay_out hx (by rw [hlv]; intro h; cases h)]
                        show [Blk.c (subs _ (ints left)), Blk.c (subs _ (ints _))] = _
                        rw [subs_nums, subs_nums]
                      · rw [stay_out hx (by rw [hlv]; intro h; cases h)]
                        refine keep_eq (show keepR _ _ = [_, _, _, _, _, _] from rfl) ?_
                        simp only [subG, sub, subs_frs]
                        rw [w64 (by omega) (by omega)]
                        rfl
                  · have hjl : j = left.length := by omega
                    subst hjl
                    conv => whnf
                    refine acond_f (decide_eq_false h3) ?_
                    conv => whnf
                    rw [List.take_length] at *
                    refine Gh.regs [5, 3, 0] (Gh.sel [1] rfl (Gh.of ⟨32 - (k + 1), by omega, k + 1, d, stayAt l k w left, by omega, rfl, hd, by omega, hp.stay, ?_, ?_, ?_⟩))
                    · rw [hrun, show 32 - k = (32 - (k + 1)) + 1 from by omega, leftFrom, if_pos (by omega), hw]
                    · show [Blk.c (subs _ (ints _))] = _
                      rw [subs_nums]
                    · refine keep_eq (show keepR _ _ = [_, _, _] from rfl) ?_
                      simp only [subG, sub, subs_frs]
                      rw [w64 (by omega) (by omega)]
                      rfl
          · rw [decide_eq_false h2]
            conv => whnf
            have hll : leftL l = left := by
              rw [hrun]
              obtain ⟨q, hq⟩ : ∃ q, 32 - k = q + 1 := ⟨32 - k - 1, by omega⟩
              rw [hq, leftFrom, if_neg (by omega)]
            have hpos : 0 < left.length := by
              rcases left with _ | ⟨x, L⟩
              · exact absurd hll hne
              · simp
            refine ⟨⟨by omega, by omega⟩, ?_⟩
            conv => whnf
            refine aget_nums hpos ?_
            conv => whnf
            refine GhR.sel [] rfl (GhR.of ⟨?_, rfl⟩)
            rw [hll, List.getD_eq_getElem?_getD, List.getElem?_eq_getElem hpos]
            rfl
        · rw [decide_eq_false h1]
          conv => whnf
          have hll : leftL l = left := by rw [hrun]; rw [show 32 - k = 0 from by omega]; rfl
          have hpos : 0 < left.length := by
            rcases left with _ | ⟨x, L⟩
            · exact absurd hll hne
            · simp
          refine ⟨⟨by omega, by omega⟩, ?_⟩
          conv => whnf
          refine aget_nums hpos ?_
          conv => whnf
          refine GhR.sel [] rfl (GhR.of ⟨?_, rfl⟩)
          rw [hll, List.getD_eq_getElem?_getD, List.getElem?_eq_getElem hpos]
          rfl
end Go.AK
