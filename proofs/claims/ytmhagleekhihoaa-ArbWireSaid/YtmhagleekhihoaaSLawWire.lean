import Derived.Test.YtmhagleekhihoaaSWireP
namespace Go.AK
open Go Go.RowKit Go.Proofs
set_option linter.unusedVariables false
set_option maxRecDepth 100000
theorem rep_set {n i : Nat} (h : i < n) : (List.replicate i (-1 : Int) ++ List.replicate (n - i) 0).set i (-1) = List.replicate (i + 1) (-1) ++ List.replicate (n - (i + 1)) 0 := by
  obtain ⟨q, hq⟩ : ∃ q, n - i = q + 1 := ⟨n - i - 1, by omega⟩
  rw [hq, show n - (i + 1) = q from by omega, List.replicate_succ, List.set_append_right _ _ (by simp), List.length_replicate, Nat.sub_self, List.set_cons_zero, List.replicate_succ', List.append_assoc]
  rfl
theorem outL_start (l : List Fr) (w : Int) : outL l w 0 = List.replicate l.length (-1) := by
  rw [List.eq_replicate_iff]
  refine ⟨outL_length _ _ _, fun b hb => ?_⟩
  obtain ⟨i, _, rfl⟩ := List.mem_map.1 hb
  exact oV_zero _ _ _
theorem loses_go (F G : Fr) (hF : F.ok) (hG : G.ok) (mF : F.may) (mG : G.may) (hne : F.row ≠ G.row) :
    ACall Try.prog 33 [F.av, G.av] [] fun r H => r = .ret (.tup [.i .i64 (losesL F.row G.row 0), .i .i64 0]) ∧ H = [] := by
  refine ACall.mono (loses_spec F G hF hG) ?_
  rintro r H ⟨v, hv, rfl, rfl⟩
  rcases two_cases hv with ⟨_, h⟩ | ⟨_, _, h⟩ | ⟨rfl, _⟩
  · exact absurd ⟨mF, mG⟩ h
  · exact absurd h hne
  · exact ⟨rfl, rfl⟩
set_option maxHeartbeats 400000 in
theorem lawWire (l : List Fr) (hok : ∀ F ∈ l, F.ok) : ACall Try.prog 11 [.rs (frs l) 0 12 l.length] [] fun r H => r = .ret (.b true) ∧ H = [] := by
  refine ACall.gh ?_
  refine ACall.enter tok false Try.func11 rfl rfl rfl (AW_sound (ip := false) tok _ _ _ _ ?_)
  have harg : ∀ φ, subs φ [AV.rs (frs l) 0 12 l.length] = [AV.rs (frs l) 0 12 l.length] := fun φ => by
    show [AV.rs (subs _ (frs l)) 0 12 l.length] = _; rw [subs_frs]
  conv => whnf
  by_cases hl : (l.length : Int) > 12
  · refine acond_t (decide_eq_true hl) ?_
    conv => whnf
    refine ACall.mono awake_spec ?_; rintro r H ⟨rfl, rfl⟩
    conv => whnf
    exact GhR.of ⟨rfl, rfl⟩
  · refine acond_f (decide_eq_false hl) ?_
    conv => whnf
    refine ACall.frame [] [] rfl (args' := [.rs (frs l) 0 12 l.length]) (Hc := []) (harg _) rfl (winner2 l (by omega) hok) ?_
    rintro r H ⟨v, hv, rfl, rfl⟩
    obtain ⟨N, hN⟩ : ∃ N, N = (if l = [] then 0 else if v = 0 then (ordL l).getD 0 0 else 0) := ⟨_, rfl⟩
    obtain ⟨E, hE⟩ : ∃ E, E = (if l = [] then 16 else v) := ⟨_, rfl⟩
    rw [← hN, ← hE]
    refine ⟨.inl rfl, ?_⟩
    conv => whnf
    by_cases hE0 : E = 0
    · have hn : l ≠ [] := fun e => by rw [if_pos e] at hE; omega
      rw [if_neg hn] at hN hE
      rw [hE0] at hE
      subst hE
      rw [if_pos rfl] at hN
      have hgo := chk_go hv
      have hpos : 0 < l.length := List.length_pos_iff.2 hn
      obtain ⟨w, hw, hlw⟩ := order_least hgo hpos
      rw [hw] at hN
      subst hN
      have hwl : w < l.length := by have := hlw.hi; omega
      refine acond_f (t := E != 0) (by rw [hE0]; rfl) ?_
      conv => whnf
      refine ALoop.ind (ip := false) tok (fun m r H => ∃ (i c : Nat), i ≤ l.length ∧ m = l.length - i ∧ i ≤ c ∧ H = [.c (rowsB l i)] ∧
        r = [(6, .i .i64 i), (5, .sl (some (0, 0)) 1 i c), (3, .i .i64 w), (2, .b false), (0, .rs (frs l) 0 12 l.length)]) l.length ?_ ?_
      · exact Gh.regs [6, 5, 3, 2, 0] (Gh.of ⟨0, 0, by omega, by omega, by omega, rfl, rfl⟩)
      · rintro m r H ⟨i, c, hi, rfl, hc, rfl, rfl⟩
        by_cases h1 : (i : Int) < l.length
        · have hil : i < l.length := by omega
          have hm := hgo.1 _ (List.getElem_mem hil)
          conv => whnf
          refine acond_t (decide_eq_true h1) ?_
          conv => whnf
          refine ⟨⟨by omega, h1⟩, ?_⟩
          conv => whnf
          refine aget_fr (k := i) (by omega) hil ?_
          conv => whnf
          refine ACall.frame [] [] rfl (args' := [l[i].av]) (Hc := []) rfl rfl (arb_spec l[i] (hok _ (List.getElem_mem _))) ?_
          rintro r H (⟨hn2, _⟩ | ⟨_, d, hd, rfl, rfl⟩)
          · exact absurd hm hn2
          refine ⟨.inl rfl, ?_⟩
          conv => whnf
          refine ⟨by dsimp only; rw [rowsB_length _ _ (by omega)]; omega, ?_⟩
          conv => whnf
          refine ⟨by show 1 ≤ (1 : Nat); omega, ?_⟩
          conv => whnf
          refine ⟨rfl, by (try dsimp only); omega, by (try dsimp only); omega, fun c2 hc2 => ?_⟩
          conv => whnf
          refine Gh.regs [6, 5, 3, 2, 0] (Gh.frz 1 rfl (Gh.sel [3] rfl (Gh.of ⟨l.length - (i + 1), by omega, i + 1, c2, by omega, rfl, by omega, ?_, ?_⟩)))
          · show [Blk.c (subs _ (subs _ (List.take (i * 1) (List.drop 0 (rowsB l i)) ++ [AV.sl (some (1, 0)) 1 l[i].row.length d])))] = _
            rw [List.drop_zero, List.take_of_length_le (by rw [rowsB_length _ _ (by omega)]; omega), rowsB_succ hil, subs_app, subs_app, subs_rowsB, subs_rowsB]
            show [Blk.c (rowsB l i ++ [AV.rs (subs _ (subs _ (ints l[i].row))) 0 1 l[i].row.length])] = _
            rw [subs_nums, subs_nums]
          · refine (congrArg (fun X => subG _ (subG _ X)) (show keepR _ _ = [_, _, _, _, _] from rfl)).trans ?_
            simp only [subG, sub, subs_frs]
            rw [w64 (by omega) (by omega)]
            rfl
        · have hil : i = l.length := by omega
          subst hil
          conv => whnf
          refine acond_f (decide_eq_false h1) ?_
          conv => whnf
          repeat (first | (refine acond_f (t := decide ((w : Int) < 0)) (decide_eq_false (by omega)) ?_; conv => whnf) | (refine acond_f (t := decide ((w : Int) ≥ l.length)) (decide_eq_false (by omega)) ?_; conv => whnf))
          refine ⟨⟨by omega, by omega, by show (8 : Int) * l.length ≤ _; omega, by omega⟩, ?_⟩
          conv => whnf
          refine ALoop.ind (ip := false) tok (fun m r H => ∃ (i : Nat), i ≤ l.length ∧ m = l.length - i ∧ H = [.c (rowsB l l.length), .c (ints (List.replicate i (-1) ++ List.replicate (l.length - i) 0))] ∧
            r = [(10, .i .i64 i), (9, .sl (some (1, 0)) 1 l.length l.length), (5, .sl (some (0, 0)) 1 l.length c), (3, .i .i64 w), (2, .b false), (0, .rs (frs l) 0 12 l.length)]) l.length ?_ ?_
          · refine Gh.regs [10, 9, 5, 3, 2, 0] (Gh.of ⟨0, by omega, by omega, ?_, rfl⟩)
            show [Blk.c (rowsB l l.length), Blk.c (List.replicate (l.length : Int).toNat [AV.i .i64 0]).flatten] = _
            rw [Int.toNat_natCast, List.replicate_zero, List.nil_append, Nat.sub_zero]
            simp [nums]
          · rintro m r H ⟨i, hi, rfl, rfl, rfl⟩
            by_cases h2 : (i : Int) < l.length
            · have hil : i < l.length := by omega
              conv => whnf
              refine acond_t (decide_eq_true h2) ?_
              conv => whnf
              refine ⟨⟨by omega, h2⟩, ?_⟩
              conv => whnf
              refine ⟨by dsimp only; rw [nums_length, List.length_append, List.length_replicate, List.length_replicate]; omega, ?_⟩
              conv => whnf
              refine Gh.regs [10, 9, 5, 3, 2, 0] (Gh.of ⟨l.length - (i + 1), by omega, i + 1, by omega, rfl, ?_, ?_⟩)
              · show [Blk.c (rowsB l l.length), Blk.c (setCells (ints (List.replicate i (-1) ++ List.replicate (l.length - i) 0)) (0 + (i : Int).toNat * 1) (AV.i .i64 (-1)).cells)] = _
                rw [setCells_nums, show (0 + (i : Int).toNat * 1) = i from by omega, rep_set hil]
              · rw [w64 (by omega) (by omega)]; rfl
            · have hil : i = l.length := by omega
              subst hil
              conv => whnf
              refine acond_f (decide_eq_false h2) ?_
              conv => whnf
              refine ALoop.ind (ip := false) tok (fun m r H => ∃ (k : Nat), k ≤ l[w].row.length ∧ m = l[w].row.length - k ∧ H = [.c (rowsB l l.length), .c (ints (outL l w k))] ∧
                r = [(11, .i .i64 k), (9, .sl (some (1, 0)) 1 l.length l.length), (5, .sl (some (0, 0)) 1 l.length c), (3, .i .i64 w), (2, .b false), (0, .rs (frs l) 0 12 l.length)]) l[w].row.length ?_ ?_
              · refine Gh.regs [11, 9, 5, 3, 2, 0] (Gh.of ⟨0, by omega, by omega, ?_, rfl⟩)
                rw [outL_start]
                simp
              · rintro m r H ⟨k, hk, rfl, rfl, rfl⟩
                have hrw := rowsB_get hwl hwl
                by_cases h3 : (k : Int) < l[w].row.length
                · conv => whnf
                  refine ⟨⟨by omega, by omega⟩, ?_⟩
                  conv => whnf
                  refine aget_at (i := w) (by omega) hrw ?_
                  conv => whnf
                  refine acond_t (decide_eq_true h3) ?_
                  conv => whnf
                  refine ALoop.ind (ip := false) tok (fun m r H => ∃ (i d : Nat), i ≤ l.length ∧ m = l.length - i ∧ (levL l w k i).length ≤ d ∧ H = [.c (rowsB l l.length), .c (ints (outL l w k)), .c (ints (levL l w k i))] ∧
                    r = [(13, .i .i64 i), (12, .sl (some (2, 0)) 1 (levL l w k i).length d), (11, .i .i64 k), (9, .sl (some (1, 0)) 1 l.length l.length), (5, .sl (some (0, 0)) 1 l.length c), (3, .i .i64 w), (2, .b false), (0, .rs (frs l) 0 12 l.length)]) l.length ?_ ?_
                  · exact Gh.regs [13, 12, 11, 9, 5, 3, 2, 0] (Gh.of ⟨0, 0, by omega, by omega, Nat.le_refl _, rfl, rfl⟩)
                  · rintro m r H ⟨i, d, hi, rfl, hd, rfl, rfl⟩
                    have hle := levL_le l w k i
                    by_cases h4 : (i : Int) < l.length
                    · have hil : i < l.length := by omega
                      have hog := outL_get (l := l) (w := w) (k := k) hil
                      have hri := rowsB_get hil hil
                      have hat := at_get l i hil
                      conv => whnf
                      refine acond_t (decide_eq_true h4) ?_
                      conv => whnf
                      refine ⟨⟨by omega, h4⟩, ?_⟩
                      conv => whnf
                      refine aget_num (i := i) (by omega) hog ?_
                      conv => whnf
                      by_cases hneg : oV l w k i < 0
                      · repeat (refine acond_t (decide_eq_true hneg) ?_; conv => whnf)
                        refine ⟨⟨by omega, h4⟩, ?_⟩
                        conv => whnf
                        repeat (refine acond_t (decide_eq_true hneg) ?_; conv => whnf)
                        refine aget_at (i := i) (by omega) hri ?_
                        conv => whnf
                        repeat (refine acond_t (decide_eq_true hneg) ?_; conv => whnf)
                        by_cases hk4 : (k : Int) < l[i].row.length
                        · have hkl : k < l[i].row.length := by omega
                          have hx := List.getElem?_eq_getElem hkl
                          have hst := levL_in hneg (by rw [hat]; exact hx)
                          refine acond_t (decide_eq_true hk4) ?_
                          conv => whnf
                          refine ⟨⟨by omega, h4⟩, ?_⟩
                          conv => whnf
                          refine aget_at (i := i) (by omega) hri ?_
                          conv => whnf
                          refine ⟨⟨by omega, hk4⟩, ?_⟩
                          conv => whnf
                          refine aget_num (i := k) (by omega) hx ?_
                          conv => whnf
                          refine ⟨by dsimp only; rw [nums_length]; omega, ?_⟩
                          conv => whnf
                          refine ⟨by show 1 ≤ (1 : Nat); omega, ?_⟩
                          conv => whnf
                          refine ⟨rfl, by (try dsimp only); omega, by (try dsimp only); omega, fun d2 hd2 => ?_⟩
                          conv => whnf
                          refine Gh.regs [13, 12, 11, 9, 5, 3, 2, 0] (Gh.sel [0, 1, 4] rfl (Gh.of ⟨l.length - (i + 1), by omega, i + 1, d2, by omega, rfl, ?_, ?_, ?_⟩))
                          · rw [hst, List.length_append]; exact hd2
                          · rw [hst]
                            show [Blk.c (subs _ (rowsB _ _)), Blk.c (subs _ (ints _)), Blk.c (subs _ (List.take ((levL l w k i).length * 1) (List.drop 0 (ints (levL l w k i))) ++ ints [l[i].row[k]]))] = _
                            rw [subs_rowsB, subs_nums, List.drop_zero, List.take_of_length_le (by rw [nums_length]; omega), ← nums_append, subs_nums]
                          · rw [hst]
                            refine keep_eq (show keepR _ _ = [_, _, _, _, _, _, _, _] from rfl) ?_
                            simp only [subG, sub, subs_frs, List.length_append, List.length_singleton]
                            rw [w64 (by omega) (by omega)]
                            rfl
                        · have hst := levL_out (l := l) (w := w) (k := k) (i := i) (fun h => hk4 (by have := h.2; rw [hat] at this; omega))
                          refine acond_f (decide_eq_false hk4) ?_
                          conv => whnf
                          refine Gh.regs [13, 12, 11, 9, 5, 3, 2, 0] (Gh.of ⟨l.length - (i + 1), by omega, i + 1, d, by omega, rfl, ?_, ?_, ?_⟩)
                          · rw [hst]; exact hd
                          · rw [hst]
                          · rw [hst, w64 (by omega) (by omega)]; rfl
                      · have hst := levL_out (l := l) (w := w) (k := k) (i := i) (fun h => hneg h.1)
                        repeat (refine acond_f (decide_eq_false hneg) ?_; conv => whnf)
                        refine Gh.regs [13, 12, 11, 9, 5, 3, 2, 0] (Gh.of ⟨l.length - (i + 1), by omega, i + 1, d, by omega, rfl, ?_, ?_, ?_⟩)
                        · rw [hst]; exact hd
                        · rw [hst]
                        · rw [hst, w64 (by omega) (by omega)]; rfl
                    · have hil : i = l.length := by omega
                      subst hil
                      have hkw : k < l[w].row.length := by omega
                      obtain ⟨a, ha0⟩ : ∃ a, l[w].row[k]? = some a := ⟨_, List.getElem?_eq_getElem hkw⟩
                      have ha : (at_ l w).row[k]? = some a := by rw [at_get l w hwl]; exact ha0
                      have hws := wired_spec (levL l w k l.length) (by omega)
                      rw [hlw.wire ha] at hws
                      conv => whnf
                      refine acond_f (decide_eq_false h4) ?_
                      conv => whnf
                      refine ACall.frame [] [2] rfl (args' := [.rs (ints (levL l w k l.length)) 0 1 (levL l w k l.length).length]) (Hc := []) (by show [AV.rs (subs _ (ints _)) 0 1 _] = _; rw [subs_nums]) rfl hws ?_
                      rintro r H ⟨rfl, rfl⟩
                      refine ⟨.inr ⟨rfl, rfl⟩, ?_⟩
                      conv => whnf
                      refine ALoop.ind (ip := false) tok (fun m r H => ∃ (i : Nat), i ≤ l.length ∧ m = l.length - i ∧ H = [.c (rowsB l l.length), .c (ints (mixL l w k i))] ∧
                        r = [(15, .i .i64 i), (14, .i .i64 a), (11, .i .i64 k), (9, .sl (some (1, 0)) 1 l.length l.length), (5, .sl (some (0, 0)) 1 l.length c), (3, .i .i64 w), (2, .b false), (0, .rs (frs l) 0 12 l.length)]) l.length ?_ ?_
                      · refine Gh.regs [15, 14, 11, 9, 5, 3, 2, 0] (Gh.sel [0, 1] rfl (Gh.of ⟨0, by omega, by omega, ?_, ?_⟩))
                        · rw [mixL_zero]
                          show [Blk.c (subs _ (rowsB _ _)), Blk.c (subs _ (ints _))] = _
                          rw [subs_rowsB, subs_nums]
                        · refine keep_eq (show keepR _ _ = [_, _, _, _, _, _, _, _] from rfl) ?_
                          simp only [subG, sub, subs_frs]
                          rfl
                      · rintro m r H ⟨i, hi, rfl, rfl, rfl⟩
                        by_cases h5 : (i : Int) < l.length
                        · have hil : i < l.length := by omega
                          have hog := mixL_get (l := l) (w := w) (k := k) hil
                          have hri := rowsB_get hil hil
                          have hat := at_get l i hil
                          conv => whnf
                          refine acond_t (decide_eq_true h5) ?_
                          conv => whnf
                          refine ⟨⟨by omega, h5⟩, ?_⟩
                          conv => whnf
                          refine aget_num (i := i) (by omega) hog ?_
                          conv => whnf
                          by_cases hneg : oV l w k i < 0
                          · repeat (refine acond_t (decide_eq_true hneg) ?_; conv => whnf)
                            refine ⟨⟨by omega, h5⟩, ?_⟩
                            conv => whnf
                            repeat (refine acond_t (decide_eq_true hneg) ?_; conv => whnf)
                            refine aget_at (i := i) (by omega) hri ?_
                            conv => whnf
                            repeat (refine acond_t (decide_eq_true hneg) ?_; conv => whnf)
                            by_cases hk4 : (k : Int) ≥ l[i].row.length
                            · have hit := hlw.hit ha (by omega) h5 hneg (by rw [hat, List.getElem?_eq_none (by omega)]; simp)
                              repeat (first | (refine acond_t (decide_eq_true hk4) ?_; conv => whnf) | (refine acond_t (decide_eq_true hneg) ?_; conv => whnf))
                              refine ⟨⟨by omega, h5⟩, ?_⟩
                              conv => whnf
                              refine ⟨by dsimp only; rw [nums_length, mixL_length]; omega, ?_⟩
                              conv => whnf
                              refine Gh.regs [15, 14, 11, 9, 5, 3, 2, 0] (Gh.of ⟨l.length - (i + 1), by omega, i + 1, by omega, rfl, ?_, ?_⟩)
                              · show [Blk.c (rowsB l l.length), Blk.c (setCells (ints (mixL l w k i)) (0 + (i : Int).toNat * 1) (AV.i .i64 k).cells)] = _
                                rw [setCells_nums, show (0 + (i : Int).toNat * 1) = i from by omega, mixL_set hil hit]
                              · rw [w64 (by omega) (by omega)]; rfl
                            · have hkl : k < l[i].row.length := by omega
                              have hx := List.getElem?_eq_getElem hkl
                              repeat (first | (refine acond_f (decide_eq_false hk4) ?_; conv => whnf) | (refine acond_t (decide_eq_true hneg) ?_; conv => whnf))
                              refine ⟨⟨by omega, h5⟩, ?_⟩
                              conv => whnf
                              repeat (first | (refine acond_f (decide_eq_false hk4) ?_; conv => whnf) | (refine acond_t (decide_eq_true hneg) ?_; conv => whnf))
                              refine aget_at (i := i) (by omega) hri ?_
                              conv => whnf
                              repeat (first | (refine acond_f (decide_eq_false hk4) ?_; conv => whnf) | (refine acond_t (decide_eq_true hneg) ?_; conv => whnf))
                              refine ⟨⟨by omega, by omega⟩, ?_⟩
                              conv => whnf
                              repeat (first | (refine acond_f (decide_eq_false hk4) ?_; conv => whnf) | (refine acond_t (decide_eq_true hneg) ?_; conv => whnf))
                              refine aget_num (i := k) (by omega) hx ?_
                              conv => whnf
                              by_cases hxa : l[i].row[k] = a
                              · have hms := hlw.miss ha (by omega) h5 (fun _ => by rw [hat, hx, hxa])
                                repeat (first | (refine acond_f (decide_eq_false hk4) ?_; conv => whnf) | (refine acond_t (decide_eq_true hneg) ?_; conv => whnf) | (refine acond_f (t := l[i].row[k] != a) (by rw [hxa]; simp) ?_; conv => whnf))
                                refine Gh.regs [15, 14, 11, 9, 5, 3, 2, 0] (Gh.of ⟨l.length - (i + 1), by omega, i + 1, by omega, rfl, ?_, ?_⟩)
                                · rw [mixL_same hil hms]
                                · rw [w64 (by omega) (by omega)]; rfl
                              · have hit := hlw.hit ha (by omega) h5 hneg (by rw [hat, hx]; exact fun h => hxa (Option.some.inj h))
                                repeat (first | (refine acond_f (decide_eq_false hk4) ?_; conv => whnf) | (refine acond_t (decide_eq_true hneg) ?_; conv => whnf) | (refine acond_t (t := l[i].row[k] != a) (bne_iff_ne.2 hxa) ?_; conv => whnf))
                                refine ⟨⟨by omega, h5⟩, ?_⟩
                                conv => whnf
                                refine ⟨by dsimp only; rw [nums_length, mixL_length]; omega, ?_⟩
                                conv => whnf
                                refine Gh.regs [15, 14, 11, 9, 5, 3, 2, 0] (Gh.of ⟨l.length - (i + 1), by omega, i + 1, by omega, rfl, ?_, ?_⟩)
                                · show [Blk.c (rowsB l l.length), Blk.c (setCells (ints (mixL l w k i)) (0 + (i : Int).toNat * 1) (AV.i .i64 k).cells)] = _
                                  rw [setCells_nums, show (0 + (i : Int).toNat * 1) = i from by omega, mixL_set hil hit]
                                · rw [w64 (by omega) (by omega)]; rfl
                          · have hms := hlw.miss ha (by omega) h5 (fun h => absurd h hneg)
                            repeat (refine acond_f (decide_eq_false hneg) ?_; conv => whnf)
                            refine Gh.regs [15, 14, 11, 9, 5, 3, 2, 0] (Gh.of ⟨l.length - (i + 1), by omega, i + 1, by omega, rfl, ?_, ?_⟩)
                            · rw [mixL_same hil hms]
                            · rw [w64 (by omega) (by omega)]; rfl
                        · have hil : i = l.length := by omega
                          subst hil
                          conv => whnf
                          refine acond_f (decide_eq_false h5) ?_
                          conv => whnf
                          refine Gh.regs [11, 9, 5, 3, 2, 0] (Gh.of ⟨l[w].row.length - (k + 1), by omega, k + 1, by omega, rfl, ?_, ?_⟩)
                          · rw [mixL_full]
                          · have := Fr.row_le l[w]
                            rw [w64 (by omega) (by omega)]; rfl
                · conv => whnf
                  refine ⟨⟨by omega, by omega⟩, ?_⟩
                  conv => whnf
                  refine aget_at (i := w) (by omega) hrw ?_
                  conv => whnf
                  refine acond_f (decide_eq_false h3) ?_
                  conv => whnf
                  have hkw : k = (at_ l w).row.length := by rw [at_get l w hwl]; omega
                  have hatw := at_get l w hwl
                  refine ALoop.ind (ip := false) tok (fun m r H => ∃ (i : Nat), i ≤ l.length ∧ m = l.length - i ∧ H = [.c (rowsB l l.length), .c (ints (outL l w k))] ∧
                    r = [(16, .i .i64 i), (9, .sl (some (1, 0)) 1 l.length l.length), (3, .i .i64 w), (2, .b false), (0, .rs (frs l) 0 12 l.length)]) l.length ?_ ?_
                  · exact Gh.regs [16, 9, 3, 2, 0] (Gh.of ⟨0, by omega, by omega, rfl, rfl⟩)
                  · rintro m r H ⟨i, hi, rfl, rfl, rfl⟩
                    by_cases h4 : (i : Int) < l.length
                    · have hil : i < l.length := by omega
                      have hog := outL_get (l := l) (w := w) (k := k) hil
                      have hfin := hlw.fin (by omega) h4
                      rw [← hkw] at hfin
                      have hat := at_get l i hil
                      conv => whnf
                      refine acond_t (decide_eq_true h4) ?_
                      conv => whnf
                      refine ⟨⟨by omega, h4⟩, ?_⟩
                      conv => whnf
                      refine aget_num (i := i) (by omega) hog ?_
                      conv => whnf
                      by_cases e : (i : Int) = w
                      · rw [if_pos e] at hfin
                        refine acond_f (by rw [hfin, e]; simp) ?_
                        conv => whnf
                        refine acond_t (beq_iff_eq.2 e) ?_
                        conv => whnf
                        refine Gh.regs [16, 9, 3, 2, 0] (Gh.of ⟨l.length - (i + 1), by omega, i + 1, by omega, rfl, rfl, ?_⟩)
                        rw [w64 (by omega) (by omega)]; rfl
                      · rw [if_neg e] at hfin
                        have hd := (hlw.dp (by omega) h4 e).2.2.2
                        rw [hd] at hfin
                        have hls := loses_go l[i] l[w] (hok _ (List.getElem_mem _)) (hok _ (List.getElem_mem _)) (hgo.1 _ (List.getElem_mem _)) (hgo.1 _ (List.getElem_mem _)) (by rw [← hat, ← hatw]; exact hgo.2 _ _ (by omega) h4 (by omega) (by omega) e)
                        rw [← hat, ← hatw, hd, hat, hatw] at hls
                        refine acond_f (by rw [hfin, beq_eq_false_iff_ne.2 e, decide_eq_false (by omega)]; rfl) ?_
                        conv => whnf
                        refine acond_f (beq_eq_false_iff_ne.2 e) ?_
                        conv => whnf
                        refine ADraw.ofP tok mixed false [] [0, 1, 2, 3, 4, 5, 6, 7] [(8, false), (9, true), (10, true), (11, true), (12, true), (13, true)] (by kernel_rfl) (fun _ _ _ _ h => h) ?_
                        conv => whnf
                        refine ⟨⟨by omega, h4⟩, ?_⟩
                        conv => whnf
                        refine aget_fr (k := i) (by omega) hil ?_
                        conv => whnf
                        refine ⟨⟨by omega, by omega⟩, ?_⟩
                        conv => whnf
                        refine aget_fr (k := w) (by omega) hwl ?_
                        conv => whnf
                        refine ACall.frame [] [] rfl (args' := [l[i].av, l[w].av]) (Hc := []) rfl rfl hls ?_
                        rintro r H ⟨rfl, rfl⟩
                        refine ⟨.inl rfl, ?_⟩
                        conv => whnf
                        refine ⟨⟨by omega, h4⟩, ?_⟩
                        conv => whnf
                        refine aget_num (i := i) (by omega) hog ?_
                        conv => whnf
                        refine acond_f (by rw [hfin]; exact decide_eq_false (by omega)) ?_
                        conv => whnf
                        refine Gh.regs [16, 9, 3, 2, 0] (Gh.of ⟨l.length - (i + 1), by omega, i + 1, by omega, rfl, rfl, ?_⟩)
                        rw [w64 (by omega) (by omega)]; rfl
                    · conv => whnf
                      refine acond_f (decide_eq_false h4) ?_
                      conv => whnf
                      refine ACall.frame [] [] rfl (args' := []) (Hc := []) rfl rfl awake_spec ?_
                      rintro r H ⟨rfl, rfl⟩
                      refine ⟨.inl rfl, ?_⟩
                      conv => whnf
                      exact GhR.sel [] rfl (GhR.of ⟨rfl, rfl⟩)
    · refine acond_t (bne_iff_ne.2 hE0) ?_
      conv => whnf
      have hN0 : (N == 0) = true := by
        rw [hN]
        split
        · rfl
        · rename_i hn
          rw [if_neg hn] at hE
          rw [if_neg (by rw [← hE]; exact hE0)]; rfl
      repeat (refine acond_t hN0 ?_; conv => whnf)
      refine ACall.frame [] [] rfl (args' := []) (Hc := []) rfl rfl awake_spec ?_
      rintro r H ⟨rfl, rfl⟩
      refine ⟨.inl rfl, ?_⟩
      conv => whnf
      repeat (refine acond_t hN0 ?_; conv => whnf)
      exact GhR.sel [] rfl (GhR.of ⟨rfl, rfl⟩)
end Go.AK
