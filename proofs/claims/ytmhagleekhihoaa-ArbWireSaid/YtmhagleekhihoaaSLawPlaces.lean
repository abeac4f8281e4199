import Derived.Test.YtmhagleekhihoaaSTurn
namespace Go.AK
open Go Go.RowKit Go.Proofs
set_option linter.unusedVariables false
set_option maxRecDepth 100000
theorem by_in {a n : Int} (hn : 0 < n) (h12 : n ≤ 12) : ∃ b : Nat, (IntKind.i64.wrap (a.tmod n + n)).tmod n = b ∧ (b : Int) < n := by
  have h1 := Int.tmod_lt_of_pos a hn
  have h2 := Int.lt_tmod_of_pos a hn
  rw [w64 (by omega) (by omega), Int.tmod_eq_emod_of_nonneg (by omega)]
  have h3 := Int.emod_nonneg (a.tmod n + n) (by omega : n ≠ 0)
  have h4 := Int.emod_lt_of_pos (a.tmod n + n) hn
  exact ⟨((a.tmod n + n) % n).toNat, by omega, by omega⟩
theorem cut_frs (l : List Fr) (a n : Nat) : List.take (n * 12) (List.drop (0 + a * 12) (frs l)) = frs ((l.drop a).take n) := by
  rw [Nat.zero_add, frs_drop, frs_take]
theorem take_not {o : List Int} (hn : o.Nodup) {i : Nat} {x : Int} (hx : o[i]? = some x) : ¬ x ∈ o.take i := fun h => by
  obtain ⟨hi, rfl⟩ := List.getElem?_eq_some_iff.1 hx
  obtain ⟨q, hq, e⟩ := List.mem_iff_getElem.1 h
  rw [List.length_take] at hq
  rw [List.getElem_take] at e
  have := (List.getElem_inj hn).1 e
  omega
theorem winner3 (l : List Fr) (hl : l.length ≤ 12) (hok : ∀ F ∈ l, F.ok) (hgo : AllGo l) (hn : l ≠ []) :
    ACall Try.prog 37 [.rs (frs l) 0 12 l.length] [] fun r H => r = .ret (.tup [.i .i64 ((ordL l).getD 0 0), .i .i64 0]) ∧ H = [] := by
  refine ACall.mono (winner2 l hl hok) ?_
  rintro r H ⟨v, hv, rfl, rfl⟩
  rw [go_chk hgo hv, if_neg hn, if_neg hn, if_pos rfl]
  exact ⟨rfl, rfl⟩
set_option maxHeartbeats 400000 in
theorem lawPlaces (l : List Fr) (hok : ∀ F ∈ l, F.ok) (a : Int) (ha : -9223372036854775808 ≤ a ∧ a ≤ 9223372036854775807) : ACall Try.prog 13 [.rs (frs l) 0 12 l.length, .i .i64 a] [] fun r H => r = .ret (.b true) ∧ H = [] := by
  refine ACall.gh ?_
  refine ACall.enter tok false Try.func13 rfl rfl rfl (AW_sound (ip := false) tok _ _ _ _ ?_)
  have harg : ∀ φ, subs φ [AV.rs (frs l) 0 12 l.length] = [AV.rs (frs l) 0 12 l.length] := fun φ => by
    show [AV.rs (subs _ (frs l)) 0 12 l.length] = _; rw [subs_frs]
  conv => whnf
  by_cases hl : (l.length : Int) > 12
  · refine acond_t (decide_eq_true hl) ?_
    conv => whnf
    refine ACall.mono awake_spec ?_; rintro r H ⟨rfl, rfl⟩
    conv => whnf
    exact GhR.of ⟨rfl, rfl⟩
  · refine acond_f (decide_eq_false hl) ?_
    conv => whnf
    refine ACall.frame [] [] rfl (args' := [.rs (frs l) 0 12 l.length]) (Hc := []) (harg _) rfl (order_spec l (by omega) hok) ?_
    rintro r H ⟨v, hv, ⟨h0, rfl, rfl⟩ | ⟨rfl, rfl, rfl⟩⟩
    · refine ⟨.inl rfl, ?_⟩
      conv => whnf
      refine acond_t (bne_iff_ne.2 h0) ?_
      conv => whnf
      refine ACall.frame [] [] rfl (args' := []) (Hc := []) rfl rfl awake_spec ?_
      rintro r H ⟨rfl, rfl⟩
      refine ⟨.inl rfl, ?_⟩
      conv => whnf
      exact GhR.sel [] rfl (GhR.of ⟨rfl, rfl⟩)
    · refine ⟨.inl rfl, ?_⟩
      have hgo := chk_go hv
      have hg := ordL_good hgo
      have hto := fun b hb => turned_order (b := b) hgo hb
      have hol := ordL_length l
      conv => whnf
      have ho0 : ∀ φ, subs φ (ints (ordL l)) = ints (ordL l) := fun φ => subs_nums _ _ _
      generalize ho : ordL l = o at hg hol hto ho0
      have hnd : o.Nodup := hg.1.nodup_iff.2 (iota_nodup _)
      have hp : Plc l.length o := fun x hx => mem_iota.1 (hg.1.mem_iff.1 hx)
      refine acond_f (t := ((l.length : Int) != l.length)) (by simp) ?_
      conv => whnf
      refine ⟨⟨by omega, by omega, by show (1 : Int) * l.length ≤ _; omega, by omega⟩, ?_⟩
      conv => whnf
      refine ALoop.ind (ip := false) tok (fun m r H => ∃ (i : Nat), i ≤ l.length ∧ m = l.length - i ∧ H = [.c (ints o), .c (goneB o l.length i)] ∧
        r = [(8, .i .i64 i), (7, .sl (some (1, 0)) 1 l.length l.length), (5, .sl (some (0, 0)) 1 l.length l.length), (4, .b false), (1, .i .i64 a), (0, .rs (frs l) 0 12 l.length)]) l.length ?_ ?_
      · refine Gh.regs [8, 7, 5, 4, 1, 0] (Gh.sel [0, 1] rfl (Gh.of ⟨0, by omega, by omega, ?_, ?_⟩))
        · rw [goneB_zero]
          show [Blk.c (subs _ (subs _ (ints o))), Blk.c (subs _ (List.replicate (l.length : Int).toNat [AV.b false]).flatten)] = _
          rw [subs_nums, subs_nums, Int.toNat_natCast, show (List.replicate l.length [AV.b false]).flatten = goneB o l.length 0 from by rw [goneB_zero]; simp, subs_gone, goneB_zero]
        · refine keep_eq (show keepR _ _ = [_, _, _, _, _, _] from rfl) ?_
          simp only [subG, sub, subs_frs]
          rfl
      · rintro m r H ⟨i, hi, rfl, rfl, rfl⟩
        by_cases h1 : (i : Int) < l.length
        · have hil : i < o.length := by omega
          obtain ⟨x, hx, hxl⟩ := plc_get hp hil
          have hx0 : decide ((x : Int) < 0) = false := decide_eq_false (by omega)
          have hx1 : decide ((x : Int) ≥ l.length) = false := decide_eq_false (by omega)
          have hx2 : decide ((x : Int) ∈ o.take i) = false := decide_eq_false (take_not hnd hx)
          have hgg := goneB_get o l.length i hxl
          rw [hx2] at hgg
          conv => whnf
          refine acond_t (decide_eq_true h1) ?_
          conv => whnf
          refine ⟨⟨by omega, h1⟩, ?_⟩
          conv => whnf
          refine aget_num (i := i) (by omega) hx ?_
          conv => whnf
          repeat (refine acond_f hx0 ?_; conv => whnf)
          refine ⟨⟨by omega, h1⟩, ?_⟩
          conv => whnf
          repeat (refine acond_f hx0 ?_; conv => whnf)
          refine aget_num (i := i) (by omega) hx ?_
          conv => whnf
          repeat (first | (refine acond_f hx0 ?_; conv => whnf) | (refine acond_f hx1 ?_; conv => whnf))
          refine ⟨⟨by omega, h1⟩, ?_⟩
          conv => whnf
          repeat (first | (refine acond_f hx0 ?_; conv => whnf) | (refine acond_f hx1 ?_; conv => whnf))
          refine aget_num (i := i) (by omega) hx ?_
          conv => whnf
          repeat (first | (refine acond_f hx0 ?_; conv => whnf) | (refine acond_f hx1 ?_; conv => whnf))
          refine ⟨⟨by omega, by omega⟩, ?_⟩
          conv => whnf
          repeat (first | (refine acond_f hx0 ?_; conv => whnf) | (refine acond_f hx1 ?_; conv => whnf))
          refine aget_at (i := x) (by omega) hgg ?_
          conv => whnf
          repeat (first | (refine acond_f hx0 ?_; conv => whnf) | (refine acond_f hx1 ?_; conv => whnf))
          refine ⟨⟨by omega, h1⟩, ?_⟩
          conv => whnf
          refine aget_num (i := i) (by omega) hx ?_
          conv => whnf
          refine ⟨⟨by omega, by omega⟩, ?_⟩
          conv => whnf
          refine ⟨by dsimp only; rw [goneB_length]; omega, ?_⟩
          conv => whnf
          refine ALoop.ind (ip := false) tok (fun m r H => ∃ (k : Nat), k ≤ i ∧ m = i - k ∧ H = [.c (ints o), .c (goneB o l.length (i + 1))] ∧
            r = [(9, .i .i64 k), (8, .i .i64 i), (7, .sl (some (1, 0)) 1 l.length l.length), (5, .sl (some (0, 0)) 1 l.length l.length), (4, .b false), (1, .i .i64 a), (0, .rs (frs l) 0 12 l.length)]) i ?_ ?_
          · refine Gh.regs [9, 8, 7, 5, 4, 1, 0] (Gh.of ⟨0, by omega, by omega, ?_, rfl⟩)
            show [Blk.c (ints o), Blk.c (setCells (goneB o l.length i) (0 + (x : Int).toNat * 1) [.b true])] = _
            rw [show (0 + (x : Int).toNat * 1) = x from by omega, goneB_set hx hxl]
          · rintro m r H ⟨k, hk, rfl, rfl, rfl⟩
            by_cases h2 : (k : Int) < i
            · have hkl : k < o.length := by omega
              obtain ⟨y, hy, hyl⟩ := plc_get hp hkl
              have hless : l[y].less l[x] = true := by
                have := List.pairwise_iff_getElem.1 hg.2 k i hkl hil (by omega)
                rw [(List.getElem?_eq_some_iff.1 hy).2, (List.getElem?_eq_some_iff.1 hx).2, at_get l y hyl, at_get l x hxl] at this
                rw [less_rows ⟨hgo.1 _ (List.getElem_mem _), hgo.1 _ (List.getElem_mem _)⟩]
                exact decide_eq_true this
              have hs := less_spec l[y] l[x] (hok _ (List.getElem_mem _)) (hok _ (List.getElem_mem _))
              rw [hless] at hs
              conv => whnf
              refine acond_t (decide_eq_true h2) ?_
              conv => whnf
              refine ADraw.of tok mixed false [0, 1, 2, 3, 4, 5, 6, 7, 8, 9, 10, 11, 12, 13] [14, 15] (by kernel_rfl) (fun _ _ _ _ h => h) ?_
              conv => whnf
              refine ⟨⟨by omega, by omega⟩, ?_⟩
              conv => whnf
              refine aget_num (i := k) (by omega) hy ?_
              conv => whnf
              refine ⟨⟨by omega, by omega⟩, ?_⟩
              conv => whnf
              refine aget_fr (k := y) (by omega) hyl ?_
              conv => whnf
              refine ⟨⟨by omega, by omega⟩, ?_⟩
              conv => whnf
              refine aget_num (i := i) (by omega) hx ?_
              conv => whnf
              refine ⟨⟨by omega, by omega⟩, ?_⟩
              conv => whnf
              refine aget_fr (k := x) (by omega) hxl ?_
              conv => whnf
              refine ACall.frame [] [] rfl (args' := [l[y].av, l[x].av]) (Hc := []) rfl rfl hs ?_
              rintro r H ⟨rfl, rfl⟩
              refine ⟨.inl rfl, ?_⟩
              conv => whnf
              refine Gh.regs [9, 8, 7, 5, 4, 1, 0] (Gh.of ⟨i - (k + 1), by omega, k + 1, by omega, rfl, rfl, ?_⟩)
              rw [w64 (by omega) (by omega)]
              rfl
            · conv => whnf
              refine acond_f (decide_eq_false h2) ?_
              conv => whnf
              refine Gh.regs [8, 7, 5, 4, 1, 0] (Gh.of ⟨l.length - (i + 1), by omega, i + 1, by omega, rfl, rfl, ?_⟩)
              rw [w64 (by omega) (by omega)]
              rfl
        · have hil : i = l.length := by omega
          subst hil
          conv => whnf
          refine acond_f (decide_eq_false h1) ?_
          conv => whnf
          by_cases hn : l = []
          · subst hn
            conv => whnf
            refine ACall.frame [] [] rfl (args' := [.rs (frs []) 0 12 0]) (Hc := []) (harg _) rfl (winner2 [] (by simp) hok) ?_
            rintro r H ⟨v, hv, rfl, rfl⟩
            refine ⟨.inl rfl, ?_⟩
            conv => whnf
            refine ACall.frame [] [] rfl (args' := []) (Hc := []) rfl rfl awake_spec ?_
            rintro r H ⟨rfl, rfl⟩
            refine ⟨.inl rfl, ?_⟩
            conv => whnf
            exact GhR.sel [] rfl (GhR.of ⟨rfl, rfl⟩)
          · have hpos : 0 < l.length := List.length_pos_iff.2 hn
            refine acond_f (beq_eq_false_iff_ne.2 (by omega)) ?_
            conv => whnf
            have hn0 : (l.length : Int) ≠ 0 := by omega
            obtain ⟨b, hb, hbl⟩ := by_in (a := a) (n := l.length) (by omega) (by omega)
            have hbn : b < l.length := by omega
            refine ⟨hn0, ?_⟩
            conv => whnf
            refine ⟨hn0, ?_⟩
            conv => whnf
            refine ADraw.gh (Gh.regs [5, 4, 1, 0] (Gh.sel [0] rfl (Gh.of ?_)))
            refine ADraw.to (r' := [(5, .sl (some (0, 0)) 1 l.length l.length), (4, .b false), (1, .i .i64 b), (0, .rs (frs l) 0 12 l.length)]) (H' := [.c (ints o)]) ?_ ?_ ?_
            · refine keep_eq (show keepR _ _ = [_, _, _, _] from rfl) ?_
              simp only [subG, sub, subs_frs]
              rw [hb]
              rfl
            · show [Blk.c (subs _ (ints o))] = _
              rw [subs_nums]
            refine ADraw.of tok mixed false [1, 2, 3, 5, 6, 7] [0, 4, 8, 9] (by kernel_rfl) (fun _ _ _ _ h => h) ?_
            conv => whnf
            refine ⟨⟨by omega, by omega⟩, ?_⟩
            conv => whnf
            refine ⟨⟨by omega, by omega⟩, ?_⟩
            conv => whnf
            refine ⟨(show 0 ≤ _ from Nat.zero_le _), ?_⟩
            conv => whnf
            have hfl := frs_length l
            refine ⟨by dsimp only; omega, ?_⟩
            conv => whnf
            refine ⟨by show ones (List.take ((l.length - b) * 12) (List.drop (0 + b * 12) (frs l))) = true; rw [cut_frs]; exact ones_frs _, by dsimp only; omega, by omega, fun c2 hc2 => ?_⟩
            conv => whnf
            have hA : List.take (0 * 12) (List.drop 0 (List.replicate 0 (AV.agg (frD.cells)).cells).flatten) ++ List.take ((l.length - b) * 12) (List.drop (0 + b * 12) (frs l)) = frs (l.drop b) := by
              rw [cut_frs, List.take_of_length_le (l := l.drop b) (by rw [List.length_drop]; omega)]
              simp
            have hAl : (frs (l.drop b)).length = (l.length - b) * 12 := by rw [frs_length, List.length_drop]
            refine ⟨by show 0 + (0 + (l.length - b)) * 12 ≤ (List.take (0 * 12) (List.drop 0 (List.replicate 0 (AV.agg (frD.cells)).cells).flatten) ++ List.take ((l.length - b) * 12) (List.drop (0 + b * 12) (frs l))).length; rw [hA, hAl]; omega, ?_⟩
            conv => whnf
            refine ⟨by dsimp only; omega, ?_⟩
            conv => whnf
            have hB : List.take (b * 12) (List.drop (0 + 0 * 12) (frs l)) = frs (l.take b) := by rw [cut_frs]; rfl
            refine ⟨by show ones (List.take (b * 12) (List.drop (0 + 0 * 12) (frs l))) = true; rw [hB]; exact ones_frs _, by dsimp only; omega, by omega, fun c3 hc3 => ?_⟩
            conv => whnf
            have hC : List.take ((0 + (l.length - b)) * 12) (List.drop 0 (List.take (0 * 12) (List.drop 0 (List.replicate 0 (AV.agg (frD.cells)).cells).flatten) ++ List.take ((l.length - b) * 12) (List.drop (0 + b * 12) (frs l)))) ++ List.take (b * 12) (List.drop (0 + 0 * 12) (frs l)) = frs (turn l b) := by
              rw [hA, hB, List.drop_zero, List.take_of_length_le (by rw [hAl]; omega), ← frs_append]
              rfl
            have htl := turn_length l b
            have hs := order_spec (turn l b) (by omega) (fun F hF => hok F (turn_mem hF))
            refine ACall.frame [] [3] rfl (args' := [.rs (frs (turn l b)) 0 12 (turn l b).length]) (Hc := []) ?_ rfl hs ?_
            · show [AV.rs (subs _ (List.take ((0 + (l.length - b)) * 12) (List.drop 0 (List.take (0 * 12) (List.drop 0 (List.replicate 0 (AV.agg (frD.cells)).cells).flatten) ++ List.take ((l.length - b) * 12) (List.drop (0 + b * 12) (frs l)))) ++ List.take (b * 12) (List.drop (0 + 0 * 12) (frs l)))) 0 12 (0 + (l.length - b) + b)] = _
              rw [hC, subs_frs, htl, show 0 + (l.length - b) + b = l.length from by omega]
            rintro r H ⟨u, hu, ⟨h0, rfl, rfl⟩ | ⟨rfl, rfl, rfl⟩⟩
            · exact absurd (go_chk (turn_go hgo hbn) hu) h0
            refine ⟨.inr ⟨rfl, by show (nros (ints _) && true) = true; rw [nros_nums]; rfl⟩, ?_⟩
            conv => whnf
            have hw := winner3 l (by omega) hok hgo hn
            obtain ⟨x0, hx0, hx0l⟩ := plc_get hp (show 0 < o.length by omega)
            rw [ho, List.getD_eq_getElem?_getD, hx0, Option.getD_some] at hw
            refine ACall.frame [] [] rfl (args' := [.rs (frs l) 0 12 l.length]) (Hc := []) (harg _) rfl hw ?_
            rintro r H ⟨rfl, rfl⟩
            refine ⟨.inl rfl, ?_⟩
            conv => whnf
            have hne : (((turn l b).length : Int) != l.length) = false := by rw [htl]; simp
            repeat (refine acond_f hne ?_; conv => whnf)
            refine ⟨⟨by omega, by omega⟩, ?_⟩
            conv => whnf
            repeat (refine acond_f hne ?_; conv => whnf)
            refine aget_num (i := 0) (by omega) hx0 ?_
            conv => whnf
            repeat (first | (refine acond_f hne ?_; conv => whnf) | (refine acond_f (t := ((x0 : Int) != x0)) (by simp) ?_; conv => whnf))
            have hto := hto b hbn
            have hgt := ordL_good (turn_go hgo hbn)
            have hpt : Plc l.length (ordL (turn l b)) := fun x hx => by
              have := mem_iota.1 (hgt.1.mem_iff.1 hx)
              rw [htl] at this; exact this
            have hptl := ordL_length (turn l b)
            rw [htl] at hptl
            generalize ordL (turn l b) = p at hto hgt hpt hptl ⊢
            refine ALoop.ind (ip := false) tok (fun m r H => ∃ (i : Nat), i ≤ l.length ∧ m = l.length - i ∧ H = [.c (ints o), .c (ints p)] ∧
              r = [(17, .i .i64 i), (13, .sl (some (1, 0)) 1 l.length l.length), (5, .sl (some (0, 0)) 1 l.length l.length), (4, .b false), (1, .i .i64 b), (0, .rs (frs l) 0 12 l.length)]) l.length ?_ ?_
            · refine Gh.regs [17, 13, 5, 4, 1, 0] (Gh.sel [0, 4] rfl (Gh.of ⟨0, by omega, by omega, ?_, ?_⟩))
              · show [Blk.c (subs _ (ints o)), Blk.c (subs _ (subs _ (ints p)))] = _
                rw [subs_nums, subs_nums, subs_nums]
              · refine keep_eq (show keepR _ _ = [_, _, _, _, _, _] from rfl) ?_
                simp only [subG, sub, subs_frs, htl]
                rfl
            · rintro m r H ⟨i, hi, rfl, rfl, rfl⟩
              by_cases h2 : (i : Int) < l.length
              · have hip : i < p.length := by omega
                have hio : i < o.length := by omega
                obtain ⟨y, hy, hyl⟩ := plc_get hpt hip
                obtain ⟨z, hz, hzl⟩ := plc_get hp hio
                have hyz : ((y : Int) + b) % l.length = z := by
                  rw [← hto, List.getElem?_map, hy] at hz
                  exact Option.some.inj hz
                have hy0 : decide ((y : Int) < 0) = false := decide_eq_false (by omega)
                have hy1 : decide ((y : Int) ≥ l.length) = false := decide_eq_false (by omega)
                have hy2 : ((IntKind.i64.wrap ((y : Int) + b)).tmod l.length != z) = false := by
                  rw [w64 (by omega) (by omega), Int.tmod_eq_emod_of_nonneg (by omega), hyz]; simp
                conv => whnf
                refine acond_t (decide_eq_true h2) ?_
                conv => whnf
                refine ADraw.of tok mixed false [0, 1, 2, 3, 4, 5, 6, 7, 8, 9, 10, 11, 12, 13, 14, 15, 16, 17, 18, 19, 20, 21, 22, 23, 24, 25, 26, 27, 28, 29] [] (by kernel_rfl) (fun _ _ _ _ h => h) ?_
                conv => whnf
                refine ⟨⟨by omega, by omega⟩, ?_⟩
                conv => whnf
                refine aget_num (i := i) (by omega) hy ?_
                conv => whnf
                repeat (first | (refine acond_f hy0 ?_; conv => whnf) | (refine acond_f hy1 ?_; conv => whnf))
                refine ⟨⟨by omega, by omega⟩, ?_⟩
                conv => whnf
                repeat (first | (refine acond_f hy0 ?_; conv => whnf) | (refine acond_f hy1 ?_; conv => whnf))
                refine aget_num (i := i) (by omega) hy ?_
                conv => whnf
                repeat (first | (refine acond_f hy0 ?_; conv => whnf) | (refine acond_f hy1 ?_; conv => whnf))
                refine ⟨⟨by omega, by omega⟩, ?_⟩
                conv => whnf
                repeat (first | (refine acond_f hy0 ?_; conv => whnf) | (refine acond_f hy1 ?_; conv => whnf))
                refine aget_num (i := i) (by omega) hy ?_
                conv => whnf
                repeat (first | (refine acond_f hy0 ?_; conv => whnf) | (refine acond_f hy1 ?_; conv => whnf))
                refine ⟨hn0, ?_⟩
                conv => whnf
                repeat (first | (refine acond_f hy0 ?_; conv => whnf) | (refine acond_f hy1 ?_; conv => whnf))
                refine ⟨⟨by omega, by omega⟩, ?_⟩
                conv => whnf
                repeat (first | (refine acond_f hy0 ?_; conv => whnf) | (refine acond_f hy1 ?_; conv => whnf))
                refine aget_num (i := i) (by omega) hz ?_
                conv => whnf
                repeat (first | (refine acond_f hy0 ?_; conv => whnf) | (refine acond_f hy1 ?_; conv => whnf) | (refine acond_f hy2 ?_; conv => whnf))
                refine Gh.regs [17, 13, 5, 4, 1, 0] (Gh.of ⟨l.length - (i + 1), by omega, i + 1, by omega, rfl, rfl, ?_⟩)
                rw [w64 (by omega) (by omega)]
                rfl
              · conv => whnf
                refine acond_f (decide_eq_false h2) ?_
                conv => whnf
                refine ACall.frame [] [] rfl (args' := []) (Hc := []) rfl rfl awake_spec ?_
                rintro r H ⟨rfl, rfl⟩
                refine ⟨.inl rfl, ?_⟩
                conv => whnf
                exact GhR.sel [] rfl (GhR.of ⟨rfl, rfl⟩)
end Go.AK
