/- Texts SQOwn: an evaluator of the model's code, proved sound, and what the program's functions do, for all inputs. -/
import Derived.Test.YtmhagleekhihoaaMS5
namespace Go.AK
open Go Go.RowKit Go.Proofs
set_option linter.unusedVariables false
set_option maxRecDepth 100000
theorem same_self (L : List Fr) (hL : L.length < 1000000000) : ACall Try.prog 20 [.rs (frs L) 0 12 L.length, .rs (frs L) 0 12 L.length] [] fun r H => r = .ret (.b true) ∧ H = [] := by
  have h := same_spec L L hL
  rwa [decide_eq_true rfl] at h
theorem set_id (v : Int) : ∀ (T : List Fr) (k : Nat) (h : k < T.length), setCells (frs T) (0 + k * 12 + 0) [.i .i64 v] = frs (T.set k { T[k] with id := v })
  | F :: T, 0, _ => rfl
  | F :: T, k + 1, h => by
    have ih := set_id v T k (Nat.lt_of_succ_lt_succ h)
    show (frs (F :: T)).set (0 + (k + 1) * 12 + 0) (.i .i64 v) = _
    have e : 0 + (k + 1) * 12 + 0 = (0 + k * 12 + 0) + 12 := by omega
    rw [e]
    show F.cells ++ (frs T).set (0 + k * 12 + 0) (.i .i64 v) = _
    rw [show (frs T).set (0 + k * 12 + 0) (.i .i64 v) = frs (T.set k { T[k]'(Nat.lt_of_succ_lt_succ h) with id := v }) from ih]
    rfl
theorem count_put_le (l : List Fr) (F G : Fr) : l.count G ≤ (putL l F).count G := by
  rw [(putL_perm l F).count_eq, List.count_cons]; omega
theorem frQ_may2 (n : Nat) (h : n < 2048) : (frQ n false).may := by
  refine ⟨by show (0 : Int) ≤ n; omega, by show (n : Int) ≤ 2047; omega, by show (0 : Int) ≤ 0; omega, by show (0 : Int) ≤ 8; omega, fun x hx => ?_⟩
  have : x ∈ List.replicate 8 (0 : Int) := List.mem_of_mem_drop hx
  exact (List.mem_replicate.1 this).2
set_option maxHeartbeats 4000000 in
theorem lawOwn (most : Int) (hmost : -9223372036854775808 ≤ most ∧ most ≤ 9223372036854775807) (A : List (Bool × Fr)) (hA : ∀ a ∈ A, a.2.ok) (pl : Int) (hpl : -9223372036854775808 ≤ pl ∧ pl ≤ 9223372036854775807) : ACall Try.prog 7 [.i .i64 most, .rs (acs A) 0 13 A.length, .i .i64 pl] [] fun r H => r = .ret (.b true) ∧ H = [] := by
  refine ACall.gh ?_
  refine ACall.enter tok false Try.func7 rfl rfl rfl (AW_sound (ip := false) tok _ _ _ _ ?_)
  conv => whnf
  refine ACall.frameH [] [] rfl (args' := [.p none]) (Hc := []) rfl rfl qfirst_np ?_
  rintro r H ⟨rfl, rfl⟩
  refine ⟨.inl rfl, [], rfl, ?_⟩
  conv => whnf
  refine ⟨(by show 0 + 12 ≤ 12; omega), ?_⟩
  conv => whnf
  refine ACall.frameH [] [] rfl (args' := [.p none, (frQ 0 false).av]) (Hc := []) rfl rfl (qput_np _) ?_
  rintro r H ⟨rfl, rfl⟩
  refine ⟨.inl rfl, [.c z12], rfl, ?_⟩
  conv => whnf
  refine ACall.frameH [] [] rfl (args' := [.p none, (frQ 0 false).av]) (Hc := []) rfl rfl (qdrop_np _) ?_
  rintro r H ⟨rfl, rfl⟩
  refine ⟨.inl rfl, [.c z12], rfl, ?_⟩
  conv => whnf
  refine ⟨flatFrame, ?_⟩
  conv => whnf
  refine ACall.frameH [] [] rfl (args' := [.p none]) (Hc := []) rfl rfl qlen_np ?_
  rintro r H ⟨rfl, rfl⟩
  refine ⟨.inl rfl, [.c z12], rfl, ?_⟩
  conv => whnf
  refine ACall.frameH [] [] rfl (args' := [.p none]) (Hc := []) rfl rfl qall_np ?_
  rintro r H ⟨rfl, rfl⟩
  refine ⟨.inl rfl, [.c z12], rfl, ?_⟩
  conv => whnf
  refine ACall.frameH [] [] rfl (args' := [.p none]) (Hc := []) rfl rfl qclone_np ?_
  rintro r H ⟨rfl, rfl⟩
  refine ⟨.inl rfl, [.c z12], rfl, ?_⟩
  conv => whnf
  by_cases hg : (A.length : Int) > 60 ∨ pl < 0 ∨ pl > A.length ∨ most < 1 ∨ most > 16
  · by_cases g1 : (A.length : Int) > 60
    · repeat (refine acond_t (decide_eq_true g1) ?_; conv => whnf)
      refine ACall.frameH [] [] rfl (args' := []) (Hc := []) rfl rfl awake9_spec ?_
      rintro r H ⟨rfl, rfl⟩
      refine ⟨.inl rfl, _, rfl, ?_⟩
      conv => whnf
      exact GhR.sel [] rfl (GhR.of ⟨rfl, rfl⟩)
    · by_cases g2 : pl < 0
      · repeat (first | (refine acond_f (decide_eq_false g1) ?_; conv => whnf) | (refine acond_t (decide_eq_true g2) ?_; conv => whnf))
        refine ACall.frameH [] [] rfl (args' := []) (Hc := []) rfl rfl awake9_spec ?_
        rintro r H ⟨rfl, rfl⟩
        refine ⟨.inl rfl, _, rfl, ?_⟩
        conv => whnf
        exact GhR.sel [] rfl (GhR.of ⟨rfl, rfl⟩)
      · by_cases g3 : pl > A.length
        · repeat (first | (refine acond_f (decide_eq_false g1) ?_; conv => whnf) | (refine acond_f (decide_eq_false g2) ?_; conv => whnf) | (refine acond_t (decide_eq_true g3) ?_; conv => whnf))
          refine ACall.frameH [] [] rfl (args' := []) (Hc := []) rfl rfl awake9_spec ?_
          rintro r H ⟨rfl, rfl⟩
          refine ⟨.inl rfl, _, rfl, ?_⟩
          conv => whnf
          exact GhR.sel [] rfl (GhR.of ⟨rfl, rfl⟩)
        · by_cases g4 : most < 1
          · repeat (first | (refine acond_f (decide_eq_false g1) ?_; conv => whnf) | (refine acond_f (decide_eq_false g2) ?_; conv => whnf) | (refine acond_f (decide_eq_false g3) ?_; conv => whnf) | (refine acond_t (decide_eq_true g4) ?_; conv => whnf))
            refine ACall.frameH [] [] rfl (args' := []) (Hc := []) rfl rfl awake9_spec ?_
            rintro r H ⟨rfl, rfl⟩
            refine ⟨.inl rfl, _, rfl, ?_⟩
            conv => whnf
            exact GhR.sel [] rfl (GhR.of ⟨rfl, rfl⟩)
          · have g5 : most > 16 := by omega
            repeat (first | (refine acond_f (decide_eq_false g1) ?_; conv => whnf) | (refine acond_f (decide_eq_false g2) ?_; conv => whnf) | (refine acond_f (decide_eq_false g3) ?_; conv => whnf) | (refine acond_f (decide_eq_false g4) ?_; conv => whnf) | (refine acond_t (decide_eq_true g5) ?_; conv => whnf))
            refine ACall.frameH [] [] rfl (args' := []) (Hc := []) rfl rfl awake9_spec ?_
            rintro r H ⟨rfl, rfl⟩
            refine ⟨.inl rfl, _, rfl, ?_⟩
            conv => whnf
            exact GhR.sel [] rfl (GhR.of ⟨rfl, rfl⟩)
  · have g1 : ¬ (A.length : Int) > 60 := by omega
    have g2 : ¬ pl < 0 := by omega
    have g3 : ¬ pl > A.length := by omega
    have g4 : ¬ most < 1 := by omega
    have g5 : ¬ most > 16 := by omega
    have hpn : ((pl.toNat : Nat) : Int) = pl := Int.toNat_of_nonneg (by omega)
    have hnl : pl.toNat ≤ A.length := by omega
    repeat (first | (refine acond_f (decide_eq_false g1) ?_; conv => whnf) | (refine acond_f (decide_eq_false g2) ?_; conv => whnf) | (refine acond_f (decide_eq_false g3) ?_; conv => whnf) | (refine acond_f (decide_eq_false g4) ?_; conv => whnf) | (refine acond_f (decide_eq_false g5) ?_; conv => whnf))
    refine ACall.frameH [] [] rfl (args' := [.i .i64 most]) (Hc := []) rfl rfl (qnew_spec most) ?_
    rintro r H (⟨h, _⟩ | ⟨_, _, rfl, rfl⟩)
    · exact absurd h (by omega)
    refine ⟨.inl rfl, [.c z12, .c [.sl none 0 0 0, .i .i64 most]], rfl, ?_⟩
    conv => whnf
    refine ACall.frameH [] [] rfl (args' := [.i .i64 most]) (Hc := []) rfl rfl (qnew_spec most) ?_
    rintro r H (⟨h, _⟩ | ⟨_, _, rfl, rfl⟩)
    · exact absurd h (by omega)
    refine ⟨.inl rfl, [.c z12, .c [.sl none 0 0 0, .i .i64 most], .c [.sl none 0 0 0, .i .i64 most]], rfl, ?_⟩
    conv => whnf
    have hzf : ∀ φ L, subs φ (frs L) = frs L := fun φ L => subs_frs φ L
    clear hg
    refine ALoop.ind (ip := false) tok (fun m r H => ∃ (i : Nat) (lq lw : List Fr), i ≤ A.length ∧ m = A.length - i ∧ lq = actsN A most (min i pl.toNat) ∧ lw = actsN A most i ∧
      ((lq = [] ∧ lw = [] ∧ H = [.c [.sl none 0 0 0, .i .i64 most], .c [.sl none 0 0 0, .i .i64 most]]) ∨
       (∃ cq Yq, lq.length ≤ cq ∧ Pl Yq ∧ Yq.length = (cq - lq.length) * 12 ∧ lw = [] ∧ H = [.c [.sl (some (2, 0)) 12 lq.length cq, .i .i64 most], .c [.sl none 0 0 0, .i .i64 most], .c (frs lq ++ Yq)]) ∨
       (∃ cw Yw, lq = [] ∧ lw.length ≤ cw ∧ Pl Yw ∧ Yw.length = (cw - lw.length) * 12 ∧ H = [.c [.sl none 0 0 0, .i .i64 most], .c [.sl (some (2, 0)) 12 lw.length cw, .i .i64 most], .c (frs lw ++ Yw)]) ∨
       (∃ cq Yq cw Yw, lq.length ≤ cq ∧ Pl Yq ∧ Yq.length = (cq - lq.length) * 12 ∧ lw.length ≤ cw ∧ Pl Yw ∧ Yw.length = (cw - lw.length) * 12 ∧ H = [.c [.sl (some (2, 0)) 12 lq.length cq, .i .i64 most], .c [.sl (some (3, 0)) 12 lw.length cw, .i .i64 most], .c (frs lq ++ Yq), .c (frs lw ++ Yw)])) ∧
      r = [(14, .i .i64 i), (12, .p (some (1, 0))), (10, .p (some (0, 0))), (6, .b false), (2, .i .i64 pl), (1, .rs (acs A) 0 13 A.length), (0, .i .i64 most)]) A.length ?_ ?_
    · refine Gh.regs [14, 12, 10, 6, 2, 1, 0] (Gh.sel [1, 2] rfl (Gh.of ⟨0, [], [], by omega, by omega, by rw [Nat.zero_min]; rfl, rfl, .inl ⟨rfl, rfl, rfl⟩, ?_⟩))
      refine keep_eq (show keepR _ _ = [_, _, _, _, _, _, _] from rfl) ?_
      simp only [subG, sub, subs_acs]
      rfl
    · rintro m r H ⟨i, lq, lw, hi, rfl, hlq, hlw, hst, rfl⟩
      have hokq : ∀ F ∈ lq, F.ok := hlq ▸ actsN_ok hA most (by omega)
      have hokw : ∀ F ∈ lw, F.ok := hlw ▸ actsN_ok hA most (by omega)
      have hlnq : (lq.length : Int) ≤ most := hlq ▸ actsN_len (by omega) (by omega)
      have hlnw : (lw.length : Int) ≤ most := hlw ▸ actsN_len (by omega) (by omega)
      by_cases h1 : (i : Int) < A.length
      · have hil : i < A.length := by omega
        have ha := hA _ (List.getElem_mem hil)
        have hlw2 : actL lw most A[i] = actsN A most (i + 1) := by rw [actsN_next hil, ← hlw]
        by_cases h2 : (i : Int) < pl
        · have hlq2 : actL lq most A[i] = actsN A most (min (i + 1) pl.toNat) := by
            rw [show min (i + 1) pl.toNat = i + 1 from by omega, actsN_next hil, hlq, show min i pl.toNat = i from by omega]
          rcases hst with ⟨rfl, rfl, rfl⟩ | ⟨cq, Yq, kq1, kq2, kq3, rfl, rfl⟩ | ⟨cw, Yw, rfl, kw1, kw2, kw3, rfl⟩ | ⟨cq, Yq, cw, Yw, kq1, kq2, kq3, kw1, kw2, kw3, rfl⟩
          ·
            conv => whnf
            refine acond_t (decide_eq_true h1) ?_
            conv => whnf
            refine acond_t (decide_eq_true h2) ?_
            conv => whnf
            refine ⟨⟨by omega, h1⟩, ?_⟩
            conv => whnf
            refine aget_act (k := i) (by omega) hil ?_
            conv => whnf
            refine ACall.frameH [0] [] rfl (args' := [.p (some (0, 0)), actAV A[i]]) (Hc := [.c [.sl none 0 0 0, .i .i64 most]]) rfl rfl (does_nil2 A[i] ha most (by omega)) ?_
            rintro r H ⟨rfl, ⟨hnq, rfl⟩ | ⟨hnq, cq, Yq, kq1, kq2, kq3, rfl⟩⟩
            ·
              refine ⟨.inl rfl, [.c [.sl none 0 0 0, .i .i64 most], .c [.sl none 0 0 0, .i .i64 most]], rfl, ?_⟩
              conv => whnf
              refine ⟨⟨by omega, h1⟩, ?_⟩
              conv => whnf
              refine aget_act (k := i) (by omega) hil ?_
              conv => whnf
              refine ACall.frameH [1] [] rfl (args' := [.p (some (0, 0)), actAV A[i]]) (Hc := [.c [.sl none 0 0 0, .i .i64 most]]) rfl rfl (does_nil2 A[i] ha most (by omega)) ?_
              rintro r H ⟨rfl, ⟨hnw, rfl⟩ | ⟨hnw, cw, Yw, kw1, kw2, kw3, rfl⟩⟩
              ·
                refine ⟨.inl rfl, [.c [.sl none 0 0 0, .i .i64 most], .c [.sl none 0 0 0, .i .i64 most]], rfl, ?_⟩
                conv => whnf
                refine Gh.regs [14, 12, 10, 6, 2, 1, 0] (Gh.of ⟨A.length - (i + 1), by omega, i + 1, (actL [] most A[i]), (actL [] most A[i]), by omega, rfl, hlq2, hlw2, .inl (⟨hnq, hnw, rfl⟩), ?_⟩)
                rw [w64 (by omega) (by omega)]; rfl
              · have hzw : ∀ φ, subs φ (frs (actL [] most A[i]) ++ Yw) = frs (actL [] most A[i]) ++ Yw := (Pl.frs _).app kw2
                refine ⟨.inl rfl, [.c [.sl none 0 0 0, .i .i64 most], .c [.sl (some (2, 0)) 12 (actL [] most A[i]).length cw, .i .i64 most], .c (frs (actL [] most A[i]) ++ Yw)], (by show [_, _, Blk.c (subs _ _)] = _; simp only [hzw]; rfl), ?_⟩
                conv => whnf
                refine Gh.regs [14, 12, 10, 6, 2, 1, 0] (Gh.of ⟨A.length - (i + 1), by omega, i + 1, (actL [] most A[i]), (actL [] most A[i]), by omega, rfl, hlq2, hlw2, .inr (.inr (.inl (⟨cw, Yw, hnq, kw1, kw2, kw3, rfl⟩))), ?_⟩)
                rw [w64 (by omega) (by omega)]; rfl
            · have hzq : ∀ φ, subs φ (frs (actL [] most A[i]) ++ Yq) = frs (actL [] most A[i]) ++ Yq := (Pl.frs _).app kq2
              refine ⟨.inl rfl, [.c [.sl (some (2, 0)) 12 (actL [] most A[i]).length cq, .i .i64 most], .c [.sl none 0 0 0, .i .i64 most], .c (frs (actL [] most A[i]) ++ Yq)], (by show [_, _, Blk.c (subs _ _)] = _; simp only [hzq]; rfl), ?_⟩
              conv => whnf
              refine ⟨⟨by omega, h1⟩, ?_⟩
              conv => whnf
              refine aget_act (k := i) (by omega) hil ?_
              conv => whnf
              refine ACall.frameH [1] [] rfl (args' := [.p (some (0, 0)), actAV A[i]]) (Hc := [.c [.sl none 0 0 0, .i .i64 most]]) rfl rfl (does_nil2 A[i] ha most (by omega)) ?_
              rintro r H ⟨rfl, ⟨hnw, rfl⟩ | ⟨hnw, cw, Yw, kw1, kw2, kw3, rfl⟩⟩
              ·
                refine ⟨.inl rfl, [.c [.sl (some (2, 0)) 12 (actL [] most A[i]).length cq, .i .i64 most], .c [.sl none 0 0 0, .i .i64 most], .c (frs (actL [] most A[i]) ++ Yq)], rfl, ?_⟩
                conv => whnf
                refine Gh.regs [14, 12, 10, 6, 2, 1, 0] (Gh.of ⟨A.length - (i + 1), by omega, i + 1, (actL [] most A[i]), (actL [] most A[i]), by omega, rfl, hlq2, hlw2, .inr (.inl (⟨cq, Yq, kq1, kq2, kq3, hnw, rfl⟩)), ?_⟩)
                rw [w64 (by omega) (by omega)]; rfl
              · have hzw : ∀ φ, subs φ (frs (actL [] most A[i]) ++ Yw) = frs (actL [] most A[i]) ++ Yw := (Pl.frs _).app kw2
                refine ⟨.inl rfl, [.c [.sl (some (2, 0)) 12 (actL [] most A[i]).length cq, .i .i64 most], .c [.sl (some (3, 0)) 12 (actL [] most A[i]).length cw, .i .i64 most], .c (frs (actL [] most A[i]) ++ Yq), .c (frs (actL [] most A[i]) ++ Yw)], (by show [_, _, _, Blk.c (subs _ _)] = _; simp only [hzw]; rfl), ?_⟩
                conv => whnf
                refine Gh.regs [14, 12, 10, 6, 2, 1, 0] (Gh.of ⟨A.length - (i + 1), by omega, i + 1, (actL [] most A[i]), (actL [] most A[i]), by omega, rfl, hlq2, hlw2, .inr (.inr (.inr (⟨cq, Yq, cw, Yw, kq1, kq2, kq3, kw1, kw2, kw3, rfl⟩))), ?_⟩)
                rw [w64 (by omega) (by omega)]; rfl
          ·
            conv => whnf
            refine acond_t (decide_eq_true h1) ?_
            conv => whnf
            refine acond_t (decide_eq_true h2) ?_
            conv => whnf
            refine ⟨⟨by omega, h1⟩, ?_⟩
            conv => whnf
            refine aget_act (k := i) (by omega) hil ?_
            conv => whnf
            have hzq0 : ∀ φ, subs φ (frs lq ++ Yq) = frs lq ++ Yq := (Pl.frs _).app kq2
            refine ACall.frameH [0, 2] [] rfl (args' := [.p (some (0, 0)), actAV A[i]]) (Hc := [.c [.sl (some (1, 0)) 12 lq.length cq, .i .i64 most], .c (frs lq ++ Yq)]) rfl (by show [_, Blk.c (subs _ _)] = _; simp only [hzq0]; rfl) (does_spec lq hokq A[i] ha most cq Yq kq1 kq2 kq3 (by omega)) ?_
            clear hzq0 kq1 kq2 kq3
            rintro r H ⟨rfl, ⟨cq, Yq, kq1, kq2, kq3, rfl⟩ | ⟨cq, Yq, kq1, kq2, kq3, rfl⟩⟩
            · have hzq : ∀ φ, subs φ (frs (actL lq most A[i]) ++ Yq) = frs (actL lq most A[i]) ++ Yq := (Pl.frs _).app kq2
              refine ⟨.inl rfl, [.c [.sl (some (2, 0)) 12 (actL lq most A[i]).length cq, .i .i64 most], .c [.sl none 0 0 0, .i .i64 most], .c (frs (actL lq most A[i]) ++ Yq)], (by show [_, _, Blk.c (subs _ _)] = _; simp only [hzq]; rfl), ?_⟩
              conv => whnf
              refine ⟨⟨by omega, h1⟩, ?_⟩
              conv => whnf
              refine aget_act (k := i) (by omega) hil ?_
              conv => whnf
              refine ACall.frameH [1] [] rfl (args' := [.p (some (0, 0)), actAV A[i]]) (Hc := [.c [.sl none 0 0 0, .i .i64 most]]) rfl rfl (does_nil2 A[i] ha most (by omega)) ?_
              rintro r H ⟨rfl, ⟨hnw, rfl⟩ | ⟨hnw, cw, Yw, kw1, kw2, kw3, rfl⟩⟩
              ·
                refine ⟨.inl rfl, [.c [.sl (some (2, 0)) 12 (actL lq most A[i]).length cq, .i .i64 most], .c [.sl none 0 0 0, .i .i64 most], .c (frs (actL lq most A[i]) ++ Yq)], rfl, ?_⟩
                conv => whnf
                refine Gh.regs [14, 12, 10, 6, 2, 1, 0] (Gh.of ⟨A.length - (i + 1), by omega, i + 1, (actL lq most A[i]), (actL [] most A[i]), by omega, rfl, hlq2, hlw2, .inr (.inl (⟨cq, Yq, kq1, kq2, kq3, hnw, rfl⟩)), ?_⟩)
                rw [w64 (by omega) (by omega)]; rfl
              · have hzw : ∀ φ, subs φ (frs (actL [] most A[i]) ++ Yw) = frs (actL [] most A[i]) ++ Yw := (Pl.frs _).app kw2
                refine ⟨.inl rfl, [.c [.sl (some (2, 0)) 12 (actL lq most A[i]).length cq, .i .i64 most], .c [.sl (some (3, 0)) 12 (actL [] most A[i]).length cw, .i .i64 most], .c (frs (actL lq most A[i]) ++ Yq), .c (frs (actL [] most A[i]) ++ Yw)], (by show [_, _, _, Blk.c (subs _ _)] = _; simp only [hzw]; rfl), ?_⟩
                conv => whnf
                refine Gh.regs [14, 12, 10, 6, 2, 1, 0] (Gh.of ⟨A.length - (i + 1), by omega, i + 1, (actL lq most A[i]), (actL [] most A[i]), by omega, rfl, hlq2, hlw2, .inr (.inr (.inr (⟨cq, Yq, cw, Yw, kq1, kq2, kq3, kw1, kw2, kw3, rfl⟩))), ?_⟩)
                rw [w64 (by omega) (by omega)]; rfl
            · have hzq : ∀ φ, subs φ (frs (actL lq most A[i]) ++ Yq) = frs (actL lq most A[i]) ++ Yq := (Pl.frs _).app kq2
              refine ⟨.inl rfl, [.c [.sl (some (3, 0)) 12 (actL lq most A[i]).length cq, .i .i64 most], .c [.sl none 0 0 0, .i .i64 most], .dead, .c (frs (actL lq most A[i]) ++ Yq)], (by show [_, _, _, Blk.c (subs _ _)] = _; simp only [hzq]; rfl), ?_⟩
              conv => whnf
              refine ⟨⟨by omega, h1⟩, ?_⟩
              conv => whnf
              refine aget_act (k := i) (by omega) hil ?_
              conv => whnf
              refine ACall.frameH [1] [] rfl (args' := [.p (some (0, 0)), actAV A[i]]) (Hc := [.c [.sl none 0 0 0, .i .i64 most]]) rfl rfl (does_nil2 A[i] ha most (by omega)) ?_
              rintro r H ⟨rfl, ⟨hnw, rfl⟩ | ⟨hnw, cw, Yw, kw1, kw2, kw3, rfl⟩⟩
              ·
                refine ⟨.inl rfl, [.c [.sl (some (3, 0)) 12 (actL lq most A[i]).length cq, .i .i64 most], .c [.sl none 0 0 0, .i .i64 most], .dead, .c (frs (actL lq most A[i]) ++ Yq)], rfl, ?_⟩
                conv => whnf
                refine Gh.regs [14, 12, 10, 6, 2, 1, 0] (Gh.sel [0, 1, 3] rfl (Gh.of ⟨A.length - (i + 1), by omega, i + 1, (actL lq most A[i]), (actL [] most A[i]), by omega, rfl, hlq2, hlw2, .inr (.inl (⟨cq, Yq, kq1, kq2, kq3, hnw, (by show [_, _, Blk.c (subs _ _)] = _; simp only [hzq]; rfl)⟩)), ?_⟩))
                refine keep_eq (show keepR _ _ = [_, _, _, _, _, _, _] from rfl) ?_
                simp only [subG, sub, subs_acs]
                rw [w64 (by omega) (by omega)]; rfl
              · have hzw : ∀ φ, subs φ (frs (actL [] most A[i]) ++ Yw) = frs (actL [] most A[i]) ++ Yw := (Pl.frs _).app kw2
                refine ⟨.inl rfl, [.c [.sl (some (3, 0)) 12 (actL lq most A[i]).length cq, .i .i64 most], .c [.sl (some (4, 0)) 12 (actL [] most A[i]).length cw, .i .i64 most], .dead, .c (frs (actL lq most A[i]) ++ Yq), .c (frs (actL [] most A[i]) ++ Yw)], (by show [_, _, _, _, Blk.c (subs _ _)] = _; simp only [hzw]; rfl), ?_⟩
                conv => whnf
                refine Gh.regs [14, 12, 10, 6, 2, 1, 0] (Gh.sel [0, 1, 3, 4] rfl (Gh.of ⟨A.length - (i + 1), by omega, i + 1, (actL lq most A[i]), (actL [] most A[i]), by omega, rfl, hlq2, hlw2, .inr (.inr (.inr (⟨cq, Yq, cw, Yw, kq1, kq2, kq3, kw1, kw2, kw3, (by show [_, _, Blk.c (subs _ _), Blk.c (subs _ _)] = _; simp only [hzq, hzw]; rfl)⟩))), ?_⟩))
                refine keep_eq (show keepR _ _ = [_, _, _, _, _, _, _] from rfl) ?_
                simp only [subG, sub, subs_acs]
                rw [w64 (by omega) (by omega)]; rfl
          ·
            have hzw : ∀ φ, subs φ (frs lw ++ Yw) = frs lw ++ Yw := (Pl.frs _).app kw2
            conv => whnf
            refine acond_t (decide_eq_true h1) ?_
            conv => whnf
            refine acond_t (decide_eq_true h2) ?_
            conv => whnf
            refine ⟨⟨by omega, h1⟩, ?_⟩
            conv => whnf
            refine aget_act (k := i) (by omega) hil ?_
            conv => whnf
            refine ACall.frameH [0] [] rfl (args' := [.p (some (0, 0)), actAV A[i]]) (Hc := [.c [.sl none 0 0 0, .i .i64 most]]) rfl rfl (does_nil2 A[i] ha most (by omega)) ?_
            rintro r H ⟨rfl, ⟨hnq, rfl⟩ | ⟨hnq, cq, Yq, kq1, kq2, kq3, rfl⟩⟩
            ·
              refine ⟨.inl rfl, [.c [.sl none 0 0 0, .i .i64 most], .c [.sl (some (2, 0)) 12 lw.length cw, .i .i64 most], .c (frs lw ++ Yw)], rfl, ?_⟩
              conv => whnf
              refine ⟨⟨by omega, h1⟩, ?_⟩
              conv => whnf
              refine aget_act (k := i) (by omega) hil ?_
              conv => whnf
              have hzw0 : ∀ φ, subs φ (frs lw ++ Yw) = frs lw ++ Yw := (Pl.frs _).app kw2
              refine ACall.frameH [1, 2] [] rfl (args' := [.p (some (0, 0)), actAV A[i]]) (Hc := [.c [.sl (some (1, 0)) 12 lw.length cw, .i .i64 most], .c (frs lw ++ Yw)]) rfl (by show [_, Blk.c (subs _ _)] = _; simp only [hzw0]; rfl) (does_spec lw hokw A[i] ha most cw Yw kw1 kw2 kw3 (by omega)) ?_
              clear hzw0 kw1 kw2 kw3
              rintro r H ⟨rfl, ⟨cw, Yw, kw1, kw2, kw3, rfl⟩ | ⟨cw, Yw, kw1, kw2, kw3, rfl⟩⟩
              · have hzw : ∀ φ, subs φ (frs (actL lw most A[i]) ++ Yw) = frs (actL lw most A[i]) ++ Yw := (Pl.frs _).app kw2
                refine ⟨.inl rfl, [.c [.sl none 0 0 0, .i .i64 most], .c [.sl (some (2, 0)) 12 (actL lw most A[i]).length cw, .i .i64 most], .c (frs (actL lw most A[i]) ++ Yw)], (by show [_, _, Blk.c (subs _ _)] = _; simp only [hzw]; rfl), ?_⟩
                conv => whnf
                refine Gh.regs [14, 12, 10, 6, 2, 1, 0] (Gh.of ⟨A.length - (i + 1), by omega, i + 1, (actL [] most A[i]), (actL lw most A[i]), by omega, rfl, hlq2, hlw2, .inr (.inr (.inl (⟨cw, Yw, hnq, kw1, kw2, kw3, rfl⟩))), ?_⟩)
                rw [w64 (by omega) (by omega)]; rfl
              · have hzw : ∀ φ, subs φ (frs (actL lw most A[i]) ++ Yw) = frs (actL lw most A[i]) ++ Yw := (Pl.frs _).app kw2
                refine ⟨.inl rfl, [.c [.sl none 0 0 0, .i .i64 most], .c [.sl (some (3, 0)) 12 (actL lw most A[i]).length cw, .i .i64 most], .dead, .c (frs (actL lw most A[i]) ++ Yw)], (by show [_, _, _, Blk.c (subs _ _)] = _; simp only [hzw]; rfl), ?_⟩
                conv => whnf
                refine Gh.regs [14, 12, 10, 6, 2, 1, 0] (Gh.sel [0, 1, 3] rfl (Gh.of ⟨A.length - (i + 1), by omega, i + 1, (actL [] most A[i]), (actL lw most A[i]), by omega, rfl, hlq2, hlw2, .inr (.inr (.inl (⟨cw, Yw, hnq, kw1, kw2, kw3, (by show [_, _, Blk.c (subs _ _)] = _; simp only [hzw]; rfl)⟩))), ?_⟩))
                refine keep_eq (show keepR _ _ = [_, _, _, _, _, _, _] from rfl) ?_
                simp only [subG, sub, subs_acs]
                rw [w64 (by omega) (by omega)]; rfl
            · have hzq : ∀ φ, subs φ (frs (actL [] most A[i]) ++ Yq) = frs (actL [] most A[i]) ++ Yq := (Pl.frs _).app kq2
              refine ⟨.inl rfl, [.c [.sl (some (3, 0)) 12 (actL [] most A[i]).length cq, .i .i64 most], .c [.sl (some (2, 0)) 12 lw.length cw, .i .i64 most], .c (frs lw ++ Yw), .c (frs (actL [] most A[i]) ++ Yq)], (by show [_, _, _, Blk.c (subs _ _)] = _; simp only [hzq]; rfl), ?_⟩
              conv => whnf
              refine ⟨⟨by omega, h1⟩, ?_⟩
              conv => whnf
              refine aget_act (k := i) (by omega) hil ?_
              conv => whnf
              have hzw0 : ∀ φ, subs φ (frs lw ++ Yw) = frs lw ++ Yw := (Pl.frs _).app kw2
              refine ACall.frameH [1, 2] [] rfl (args' := [.p (some (0, 0)), actAV A[i]]) (Hc := [.c [.sl (some (1, 0)) 12 lw.length cw, .i .i64 most], .c (frs lw ++ Yw)]) rfl (by show [_, Blk.c (subs _ _)] = _; simp only [hzw0]; rfl) (does_spec lw hokw A[i] ha most cw Yw kw1 kw2 kw3 (by omega)) ?_
              clear hzw0 kw1 kw2 kw3
              rintro r H ⟨rfl, ⟨cw, Yw, kw1, kw2, kw3, rfl⟩ | ⟨cw, Yw, kw1, kw2, kw3, rfl⟩⟩
              · have hzw : ∀ φ, subs φ (frs (actL lw most A[i]) ++ Yw) = frs (actL lw most A[i]) ++ Yw := (Pl.frs _).app kw2
                refine ⟨.inl rfl, [.c [.sl (some (3, 0)) 12 (actL [] most A[i]).length cq, .i .i64 most], .c [.sl (some (2, 0)) 12 (actL lw most A[i]).length cw, .i .i64 most], .c (frs (actL lw most A[i]) ++ Yw), .c (frs (actL [] most A[i]) ++ Yq)], (by show [_, _, Blk.c (subs _ _), _] = _; simp only [hzw]; rfl), ?_⟩
                conv => whnf
                refine Gh.regs [14, 12, 10, 6, 2, 1, 0] (Gh.sel [0, 1, 3, 2] rfl (Gh.of ⟨A.length - (i + 1), by omega, i + 1, (actL [] most A[i]), (actL lw most A[i]), by omega, rfl, hlq2, hlw2, .inr (.inr (.inr (⟨cq, Yq, cw, Yw, kq1, kq2, kq3, kw1, kw2, kw3, (by show [_, _, Blk.c (subs _ _), Blk.c (subs _ _)] = _; simp only [hzw, hzq]; rfl)⟩))), ?_⟩))
                refine keep_eq (show keepR _ _ = [_, _, _, _, _, _, _] from rfl) ?_
                simp only [subG, sub, subs_acs]
                rw [w64 (by omega) (by omega)]; rfl
              · have hzw : ∀ φ, subs φ (frs (actL lw most A[i]) ++ Yw) = frs (actL lw most A[i]) ++ Yw := (Pl.frs _).app kw2
                refine ⟨.inl rfl, [.c [.sl (some (3, 0)) 12 (actL [] most A[i]).length cq, .i .i64 most], .c [.sl (some (4, 0)) 12 (actL lw most A[i]).length cw, .i .i64 most], .dead, .c (frs (actL [] most A[i]) ++ Yq), .c (frs (actL lw most A[i]) ++ Yw)], (by show [_, _, _, _, Blk.c (subs _ _)] = _; simp only [hzw]; rfl), ?_⟩
                conv => whnf
                refine Gh.regs [14, 12, 10, 6, 2, 1, 0] (Gh.sel [0, 1, 3, 4] rfl (Gh.of ⟨A.length - (i + 1), by omega, i + 1, (actL [] most A[i]), (actL lw most A[i]), by omega, rfl, hlq2, hlw2, .inr (.inr (.inr (⟨cq, Yq, cw, Yw, kq1, kq2, kq3, kw1, kw2, kw3, (by show [_, _, Blk.c (subs _ _), Blk.c (subs _ _)] = _; simp only [hzq, hzw]; rfl)⟩))), ?_⟩))
                refine keep_eq (show keepR _ _ = [_, _, _, _, _, _, _] from rfl) ?_
                simp only [subG, sub, subs_acs]
                rw [w64 (by omega) (by omega)]; rfl
          ·
            have hzw : ∀ φ, subs φ (frs lw ++ Yw) = frs lw ++ Yw := (Pl.frs _).app kw2
            conv => whnf
            refine acond_t (decide_eq_true h1) ?_
            conv => whnf
            refine acond_t (decide_eq_true h2) ?_
            conv => whnf
            refine ⟨⟨by omega, h1⟩, ?_⟩
            conv => whnf
            refine aget_act (k := i) (by omega) hil ?_
            conv => whnf
            have hzq0 : ∀ φ, subs φ (frs lq ++ Yq) = frs lq ++ Yq := (Pl.frs _).app kq2
            refine ACall.frameH [0, 2] [] rfl (args' := [.p (some (0, 0)), actAV A[i]]) (Hc := [.c [.sl (some (1, 0)) 12 lq.length cq, .i .i64 most], .c (frs lq ++ Yq)]) rfl (by show [_, Blk.c (subs _ _)] = _; simp only [hzq0]; rfl) (does_spec lq hokq A[i] ha most cq Yq kq1 kq2 kq3 (by omega)) ?_
            clear hzq0 kq1 kq2 kq3
            rintro r H ⟨rfl, ⟨cq, Yq, kq1, kq2, kq3, rfl⟩ | ⟨cq, Yq, kq1, kq2, kq3, rfl⟩⟩
            · have hzq : ∀ φ, subs φ (frs (actL lq most A[i]) ++ Yq) = frs (actL lq most A[i]) ++ Yq := (Pl.frs _).app kq2
              refine ⟨.inl rfl, [.c [.sl (some (2, 0)) 12 (actL lq most A[i]).length cq, .i .i64 most], .c [.sl (some (3, 0)) 12 lw.length cw, .i .i64 most], .c (frs (actL lq most A[i]) ++ Yq), .c (frs lw ++ Yw)], (by show [_, _, Blk.c (subs _ _), _] = _; simp only [hzq]; rfl), ?_⟩
              conv => whnf
              refine ⟨⟨by omega, h1⟩, ?_⟩
              conv => whnf
              refine aget_act (k := i) (by omega) hil ?_
              conv => whnf
              have hzw0 : ∀ φ, subs φ (frs lw ++ Yw) = frs lw ++ Yw := (Pl.frs _).app kw2
              refine ACall.frameH [1, 3] [] rfl (args' := [.p (some (0, 0)), actAV A[i]]) (Hc := [.c [.sl (some (1, 0)) 12 lw.length cw, .i .i64 most], .c (frs lw ++ Yw)]) rfl (by show [_, Blk.c (subs _ _)] = _; simp only [hzw0]; rfl) (does_spec lw hokw A[i] ha most cw Yw kw1 kw2 kw3 (by omega)) ?_
              clear hzw0 kw1 kw2 kw3
              rintro r H ⟨rfl, ⟨cw, Yw, kw1, kw2, kw3, rfl⟩ | ⟨cw, Yw, kw1, kw2, kw3, rfl⟩⟩
              · have hzw : ∀ φ, subs φ (frs (actL lw most A[i]) ++ Yw) = frs (actL lw most A[i]) ++ Yw := (Pl.frs _).app kw2
                refine ⟨.inl rfl, [.c [.sl (some (2, 0)) 12 (actL lq most A[i]).length cq, .i .i64 most], .c [.sl (some (3, 0)) 12 (actL lw most A[i]).length cw, .i .i64 most], .c (frs (actL lq most A[i]) ++ Yq), .c (frs (actL lw most A[i]) ++ Yw)], (by show [_, _, _, Blk.c (subs _ _)] = _; simp only [hzw]; rfl), ?_⟩
                conv => whnf
                refine Gh.regs [14, 12, 10, 6, 2, 1, 0] (Gh.of ⟨A.length - (i + 1), by omega, i + 1, (actL lq most A[i]), (actL lw most A[i]), by omega, rfl, hlq2, hlw2, .inr (.inr (.inr (⟨cq, Yq, cw, Yw, kq1, kq2, kq3, kw1, kw2, kw3, rfl⟩))), ?_⟩)
                rw [w64 (by omega) (by omega)]; rfl
              · have hzw : ∀ φ, subs φ (frs (actL lw most A[i]) ++ Yw) = frs (actL lw most A[i]) ++ Yw := (Pl.frs _).app kw2
                refine ⟨.inl rfl, [.c [.sl (some (2, 0)) 12 (actL lq most A[i]).length cq, .i .i64 most], .c [.sl (some (4, 0)) 12 (actL lw most A[i]).length cw, .i .i64 most], .c (frs (actL lq most A[i]) ++ Yq), .dead, .c (frs (actL lw most A[i]) ++ Yw)], (by show [_, _, _, _, Blk.c (subs _ _)] = _; simp only [hzw]; rfl), ?_⟩
                conv => whnf
                refine Gh.regs [14, 12, 10, 6, 2, 1, 0] (Gh.sel [0, 1, 2, 4] rfl (Gh.of ⟨A.length - (i + 1), by omega, i + 1, (actL lq most A[i]), (actL lw most A[i]), by omega, rfl, hlq2, hlw2, .inr (.inr (.inr (⟨cq, Yq, cw, Yw, kq1, kq2, kq3, kw1, kw2, kw3, (by show [_, _, Blk.c (subs _ _), Blk.c (subs _ _)] = _; simp only [hzq, hzw]; rfl)⟩))), ?_⟩))
                refine keep_eq (show keepR _ _ = [_, _, _, _, _, _, _] from rfl) ?_
                simp only [subG, sub, subs_acs]
                rw [w64 (by omega) (by omega)]; rfl
            · have hzq : ∀ φ, subs φ (frs (actL lq most A[i]) ++ Yq) = frs (actL lq most A[i]) ++ Yq := (Pl.frs _).app kq2
              refine ⟨.inl rfl, [.c [.sl (some (4, 0)) 12 (actL lq most A[i]).length cq, .i .i64 most], .c [.sl (some (3, 0)) 12 lw.length cw, .i .i64 most], .dead, .c (frs lw ++ Yw), .c (frs (actL lq most A[i]) ++ Yq)], (by show [_, _, _, _, Blk.c (subs _ _)] = _; simp only [hzq]; rfl), ?_⟩
              conv => whnf
              refine ⟨⟨by omega, h1⟩, ?_⟩
              conv => whnf
              refine aget_act (k := i) (by omega) hil ?_
              conv => whnf
              have hzw0 : ∀ φ, subs φ (frs lw ++ Yw) = frs lw ++ Yw := (Pl.frs _).app kw2
              refine ACall.frameH [1, 3] [] rfl (args' := [.p (some (0, 0)), actAV A[i]]) (Hc := [.c [.sl (some (1, 0)) 12 lw.length cw, .i .i64 most], .c (frs lw ++ Yw)]) rfl (by show [_, Blk.c (subs _ _)] = _; simp only [hzw0]; rfl) (does_spec lw hokw A[i] ha most cw Yw kw1 kw2 kw3 (by omega)) ?_
              clear hzw0 kw1 kw2 kw3
              rintro r H ⟨rfl, ⟨cw, Yw, kw1, kw2, kw3, rfl⟩ | ⟨cw, Yw, kw1, kw2, kw3, rfl⟩⟩
              · have hzw : ∀ φ, subs φ (frs (actL lw most A[i]) ++ Yw) = frs (actL lw most A[i]) ++ Yw := (Pl.frs _).app kw2
                refine ⟨.inl rfl, [.c [.sl (some (4, 0)) 12 (actL lq most A[i]).length cq, .i .i64 most], .c [.sl (some (3, 0)) 12 (actL lw most A[i]).length cw, .i .i64 most], .dead, .c (frs (actL lw most A[i]) ++ Yw), .c (frs (actL lq most A[i]) ++ Yq)], (by show [_, _, _, Blk.c (subs _ _), _] = _; simp only [hzw]; rfl), ?_⟩
                conv => whnf
                refine Gh.regs [14, 12, 10, 6, 2, 1, 0] (Gh.sel [0, 1, 4, 3] rfl (Gh.of ⟨A.length - (i + 1), by omega, i + 1, (actL lq most A[i]), (actL lw most A[i]), by omega, rfl, hlq2, hlw2, .inr (.inr (.inr (⟨cq, Yq, cw, Yw, kq1, kq2, kq3, kw1, kw2, kw3, (by show [_, _, Blk.c (subs _ _), Blk.c (subs _ _)] = _; simp only [hzw, hzq]; rfl)⟩))), ?_⟩))
                refine keep_eq (show keepR _ _ = [_, _, _, _, _, _, _] from rfl) ?_
                simp only [subG, sub, subs_acs]
                rw [w64 (by omega) (by omega)]; rfl
              · have hzw : ∀ φ, subs φ (frs (actL lw most A[i]) ++ Yw) = frs (actL lw most A[i]) ++ Yw := (Pl.frs _).app kw2
                refine ⟨.inl rfl, [.c [.sl (some (4, 0)) 12 (actL lq most A[i]).length cq, .i .i64 most], .c [.sl (some (5, 0)) 12 (actL lw most A[i]).length cw, .i .i64 most], .dead, .dead, .c (frs (actL lq most A[i]) ++ Yq), .c (frs (actL lw most A[i]) ++ Yw)], (by show [_, _, _, _, _, Blk.c (subs _ _)] = _; simp only [hzw]; rfl), ?_⟩
                conv => whnf
                refine Gh.regs [14, 12, 10, 6, 2, 1, 0] (Gh.sel [0, 1, 4, 5] rfl (Gh.of ⟨A.length - (i + 1), by omega, i + 1, (actL lq most A[i]), (actL lw most A[i]), by omega, rfl, hlq2, hlw2, .inr (.inr (.inr (⟨cq, Yq, cw, Yw, kq1, kq2, kq3, kw1, kw2, kw3, (by show [_, _, Blk.c (subs _ _), Blk.c (subs _ _)] = _; simp only [hzq, hzw]; rfl)⟩))), ?_⟩))
                refine keep_eq (show keepR _ _ = [_, _, _, _, _, _, _] from rfl) ?_
                simp only [subG, sub, subs_acs]
                rw [w64 (by omega) (by omega)]; rfl
        · have hlq2 : lq = actsN A most (min (i + 1) pl.toNat) := by
            rw [show min (i + 1) pl.toNat = min i pl.toNat from by omega]; exact hlq
          rcases hst with ⟨rfl, rfl, rfl⟩ | ⟨cq, Yq, kq1, kq2, kq3, rfl, rfl⟩ | ⟨cw, Yw, rfl, kw1, kw2, kw3, rfl⟩ | ⟨cq, Yq, cw, Yw, kq1, kq2, kq3, kw1, kw2, kw3, rfl⟩
          ·
            conv => whnf
            refine acond_t (decide_eq_true h1) ?_
            conv => whnf
            refine acond_f (decide_eq_false h2) ?_
            conv => whnf
            refine ⟨⟨by omega, h1⟩, ?_⟩
            conv => whnf
            refine aget_act (k := i) (by omega) hil ?_
            conv => whnf
            refine ACall.frameH [1] [] rfl (args' := [.p (some (0, 0)), actAV A[i]]) (Hc := [.c [.sl none 0 0 0, .i .i64 most]]) rfl rfl (does_nil2 A[i] ha most (by omega)) ?_
            rintro r H ⟨rfl, ⟨hnw, rfl⟩ | ⟨hnw, cw, Yw, kw1, kw2, kw3, rfl⟩⟩
            ·
              refine ⟨.inl rfl, [.c [.sl none 0 0 0, .i .i64 most], .c [.sl none 0 0 0, .i .i64 most]], rfl, ?_⟩
              conv => whnf
              refine Gh.regs [14, 12, 10, 6, 2, 1, 0] (Gh.of ⟨A.length - (i + 1), by omega, i + 1, [], (actL [] most A[i]), by omega, rfl, hlq2, hlw2, .inl (⟨rfl, hnw, rfl⟩), ?_⟩)
              rw [w64 (by omega) (by omega)]; rfl
            · have hzw : ∀ φ, subs φ (frs (actL [] most A[i]) ++ Yw) = frs (actL [] most A[i]) ++ Yw := (Pl.frs _).app kw2
              refine ⟨.inl rfl, [.c [.sl none 0 0 0, .i .i64 most], .c [.sl (some (2, 0)) 12 (actL [] most A[i]).length cw, .i .i64 most], .c (frs (actL [] most A[i]) ++ Yw)], (by show [_, _, Blk.c (subs _ _)] = _; simp only [hzw]; rfl), ?_⟩
              conv => whnf
              refine Gh.regs [14, 12, 10, 6, 2, 1, 0] (Gh.of ⟨A.length - (i + 1), by omega, i + 1, [], (actL [] most A[i]), by omega, rfl, hlq2, hlw2, .inr (.inr (.inl (⟨cw, Yw, rfl, kw1, kw2, kw3, rfl⟩))), ?_⟩)
              rw [w64 (by omega) (by omega)]; rfl
          ·
            have hzq : ∀ φ, subs φ (frs lq ++ Yq) = frs lq ++ Yq := (Pl.frs _).app kq2
            conv => whnf
            refine acond_t (decide_eq_true h1) ?_
            conv => whnf
            refine acond_f (decide_eq_false h2) ?_
            conv => whnf
            refine ⟨⟨by omega, h1⟩, ?_⟩
            conv => whnf
            refine aget_act (k := i) (by omega) hil ?_
            conv => whnf
            refine ACall.frameH [1] [] rfl (args' := [.p (some (0, 0)), actAV A[i]]) (Hc := [.c [.sl none 0 0 0, .i .i64 most]]) rfl rfl (does_nil2 A[i] ha most (by omega)) ?_
            rintro r H ⟨rfl, ⟨hnw, rfl⟩ | ⟨hnw, cw, Yw, kw1, kw2, kw3, rfl⟩⟩
            ·
              refine ⟨.inl rfl, [.c [.sl (some (2, 0)) 12 lq.length cq, .i .i64 most], .c [.sl none 0 0 0, .i .i64 most], .c (frs lq ++ Yq)], rfl, ?_⟩
              conv => whnf
              refine Gh.regs [14, 12, 10, 6, 2, 1, 0] (Gh.of ⟨A.length - (i + 1), by omega, i + 1, lq, (actL [] most A[i]), by omega, rfl, hlq2, hlw2, .inr (.inl (⟨cq, Yq, kq1, kq2, kq3, hnw, rfl⟩)), ?_⟩)
              rw [w64 (by omega) (by omega)]; rfl
            · have hzw : ∀ φ, subs φ (frs (actL [] most A[i]) ++ Yw) = frs (actL [] most A[i]) ++ Yw := (Pl.frs _).app kw2
              refine ⟨.inl rfl, [.c [.sl (some (2, 0)) 12 lq.length cq, .i .i64 most], .c [.sl (some (3, 0)) 12 (actL [] most A[i]).length cw, .i .i64 most], .c (frs lq ++ Yq), .c (frs (actL [] most A[i]) ++ Yw)], (by show [_, _, _, Blk.c (subs _ _)] = _; simp only [hzw]; rfl), ?_⟩
              conv => whnf
              refine Gh.regs [14, 12, 10, 6, 2, 1, 0] (Gh.of ⟨A.length - (i + 1), by omega, i + 1, lq, (actL [] most A[i]), by omega, rfl, hlq2, hlw2, .inr (.inr (.inr (⟨cq, Yq, cw, Yw, kq1, kq2, kq3, kw1, kw2, kw3, rfl⟩))), ?_⟩)
              rw [w64 (by omega) (by omega)]; rfl
          ·
            conv => whnf
            refine acond_t (decide_eq_true h1) ?_
            conv => whnf
            refine acond_f (decide_eq_false h2) ?_
            conv => whnf
            refine ⟨⟨by omega, h1⟩, ?_⟩
            conv => whnf
            refine aget_act (k := i) (by omega) hil ?_
            conv => whnf
            have hzw0 : ∀ φ, subs φ (frs lw ++ Yw) = frs lw ++ Yw := (Pl.frs _).app kw2
            refine ACall.frameH [1, 2] [] rfl (args' := [.p (some (0, 0)), actAV A[i]]) (Hc := [.c [.sl (some (1, 0)) 12 lw.length cw, .i .i64 most], .c (frs lw ++ Yw)]) rfl (by show [_, Blk.c (subs _ _)] = _; simp only [hzw0]; rfl) (does_spec lw hokw A[i] ha most cw Yw kw1 kw2 kw3 (by omega)) ?_
            clear hzw0 kw1 kw2 kw3
            rintro r H ⟨rfl, ⟨cw, Yw, kw1, kw2, kw3, rfl⟩ | ⟨cw, Yw, kw1, kw2, kw3, rfl⟩⟩
            · have hzw : ∀ φ, subs φ (frs (actL lw most A[i]) ++ Yw) = frs (actL lw most A[i]) ++ Yw := (Pl.frs _).app kw2
              refine ⟨.inl rfl, [.c [.sl none 0 0 0, .i .i64 most], .c [.sl (some (2, 0)) 12 (actL lw most A[i]).length cw, .i .i64 most], .c (frs (actL lw most A[i]) ++ Yw)], (by show [_, _, Blk.c (subs _ _)] = _; simp only [hzw]; rfl), ?_⟩
              conv => whnf
              refine Gh.regs [14, 12, 10, 6, 2, 1, 0] (Gh.of ⟨A.length - (i + 1), by omega, i + 1, [], (actL lw most A[i]), by omega, rfl, hlq2, hlw2, .inr (.inr (.inl (⟨cw, Yw, rfl, kw1, kw2, kw3, rfl⟩))), ?_⟩)
              rw [w64 (by omega) (by omega)]; rfl
            · have hzw : ∀ φ, subs φ (frs (actL lw most A[i]) ++ Yw) = frs (actL lw most A[i]) ++ Yw := (Pl.frs _).app kw2
              refine ⟨.inl rfl, [.c [.sl none 0 0 0, .i .i64 most], .c [.sl (some (3, 0)) 12 (actL lw most A[i]).length cw, .i .i64 most], .dead, .c (frs (actL lw most A[i]) ++ Yw)], (by show [_, _, _, Blk.c (subs _ _)] = _; simp only [hzw]; rfl), ?_⟩
              conv => whnf
              refine Gh.regs [14, 12, 10, 6, 2, 1, 0] (Gh.sel [0, 1, 3] rfl (Gh.of ⟨A.length - (i + 1), by omega, i + 1, [], (actL lw most A[i]), by omega, rfl, hlq2, hlw2, .inr (.inr (.inl (⟨cw, Yw, rfl, kw1, kw2, kw3, (by show [_, _, Blk.c (subs _ _)] = _; simp only [hzw]; rfl)⟩))), ?_⟩))
              refine keep_eq (show keepR _ _ = [_, _, _, _, _, _, _] from rfl) ?_
              simp only [subG, sub, subs_acs]
              rw [w64 (by omega) (by omega)]; rfl
          ·
            have hzq : ∀ φ, subs φ (frs lq ++ Yq) = frs lq ++ Yq := (Pl.frs _).app kq2
            conv => whnf
            refine acond_t (decide_eq_true h1) ?_
            conv => whnf
            refine acond_f (decide_eq_false h2) ?_
            conv => whnf
            refine ⟨⟨by omega, h1⟩, ?_⟩
            conv => whnf
            refine aget_act (k := i) (by omega) hil ?_
            conv => whnf
            have hzw0 : ∀ φ, subs φ (frs lw ++ Yw) = frs lw ++ Yw := (Pl.frs _).app kw2
            refine ACall.frameH [1, 3] [] rfl (args' := [.p (some (0, 0)), actAV A[i]]) (Hc := [.c [.sl (some (1, 0)) 12 lw.length cw, .i .i64 most], .c (frs lw ++ Yw)]) rfl (by show [_, Blk.c (subs _ _)] = _; simp only [hzw0]; rfl) (does_spec lw hokw A[i] ha most cw Yw kw1 kw2 kw3 (by omega)) ?_
            clear hzw0 kw1 kw2 kw3
            rintro r H ⟨rfl, ⟨cw, Yw, kw1, kw2, kw3, rfl⟩ | ⟨cw, Yw, kw1, kw2, kw3, rfl⟩⟩
            · have hzw : ∀ φ, subs φ (frs (actL lw most A[i]) ++ Yw) = frs (actL lw most A[i]) ++ Yw := (Pl.frs _).app kw2
              refine ⟨.inl rfl, [.c [.sl (some (2, 0)) 12 lq.length cq, .i .i64 most], .c [.sl (some (3, 0)) 12 (actL lw most A[i]).length cw, .i .i64 most], .c (frs lq ++ Yq), .c (frs (actL lw most A[i]) ++ Yw)], (by show [_, _, _, Blk.c (subs _ _)] = _; simp only [hzw]; rfl), ?_⟩
              conv => whnf
              refine Gh.regs [14, 12, 10, 6, 2, 1, 0] (Gh.of ⟨A.length - (i + 1), by omega, i + 1, lq, (actL lw most A[i]), by omega, rfl, hlq2, hlw2, .inr (.inr (.inr (⟨cq, Yq, cw, Yw, kq1, kq2, kq3, kw1, kw2, kw3, rfl⟩))), ?_⟩)
              rw [w64 (by omega) (by omega)]; rfl
            · have hzw : ∀ φ, subs φ (frs (actL lw most A[i]) ++ Yw) = frs (actL lw most A[i]) ++ Yw := (Pl.frs _).app kw2
              refine ⟨.inl rfl, [.c [.sl (some (2, 0)) 12 lq.length cq, .i .i64 most], .c [.sl (some (4, 0)) 12 (actL lw most A[i]).length cw, .i .i64 most], .c (frs lq ++ Yq), .dead, .c (frs (actL lw most A[i]) ++ Yw)], (by show [_, _, _, _, Blk.c (subs _ _)] = _; simp only [hzw]; rfl), ?_⟩
              conv => whnf
              refine Gh.regs [14, 12, 10, 6, 2, 1, 0] (Gh.sel [0, 1, 2, 4] rfl (Gh.of ⟨A.length - (i + 1), by omega, i + 1, lq, (actL lw most A[i]), by omega, rfl, hlq2, hlw2, .inr (.inr (.inr (⟨cq, Yq, cw, Yw, kq1, kq2, kq3, kw1, kw2, kw3, (by show [_, _, Blk.c (subs _ _), Blk.c (subs _ _)] = _; simp only [hzq, hzw]; rfl)⟩))), ?_⟩))
              refine keep_eq (show keepR _ _ = [_, _, _, _, _, _, _] from rfl) ?_
              simp only [subG, sub, subs_acs]
              rw [w64 (by omega) (by omega)]; rfl
      · have hil : i = A.length := by omega
        rw [hil] at hlw
        rw [show min i pl.toNat = pl.toNat from by omega] at hlq
        rcases hst with ⟨rfl, rfl, rfl⟩ | ⟨cq, Yq, kq1, kq2, kq3, rfl, rfl⟩ | ⟨cw, Yw, rfl, kw1, kw2, kw3, rfl⟩ | ⟨cq, Yq, cw, Yw, kq1, kq2, kq3, kw1, kw2, kw3, rfl⟩
        ·
          conv => whnf
          refine acond_f (decide_eq_false h1) ?_
          conv => whnf
          refine ACall.frameH [0] [] rfl (args' := [.p (some (0, 0))]) (Hc := [.c [.sl none 0 0 0, .i .i64 most]]) rfl rfl (qall_nil most) ?_
          rintro r H ⟨rfl, rfl⟩
          refine ⟨.inl rfl, [.c [.sl none 0 0 0, .i .i64 most], .c [.sl none 0 0 0, .i .i64 most]], rfl, ?_⟩
          conv => whnf
          refine ACall.frameH [0] [] rfl (args' := [.p (some (0, 0))]) (Hc := [.c [.sl none 0 0 0, .i .i64 most]]) rfl rfl (qclone_nil most) ?_
          rintro r H ⟨rfl, rfl⟩
          refine ⟨.inl rfl, [.c [.sl none 0 0 0, .i .i64 most], .c [.sl none 0 0 0, .i .i64 most], .c [.sl none 0 0 0, .i .i64 most]], rfl, ?_⟩
          conv => whnf
          refine ALoop.ind (ip := false) tok (fun m r H => ∃ (j : Nat) (lc : List Fr), pl.toNat ≤ j ∧ j ≤ A.length ∧ m = A.length - j ∧ lc = actsN A most j ∧
            ((lc = [] ∧ H = [.c [.sl none 0 0 0, .i .i64 most], .c [.sl none 0 0 0, .i .i64 most], .c [.sl none 0 0 0, .i .i64 most]]) ∨ (∃ cc Yc, lc.length ≤ cc ∧ Pl Yc ∧ Yc.length = (cc - lc.length) * 12 ∧ H = [.c [.sl none 0 0 0, .i .i64 most], .c [.sl none 0 0 0, .i .i64 most], .c [.sl (some (3, 0)) 12 lc.length cc, .i .i64 most], .c (frs lc ++ Yc)])) ∧
            r = [(17, .i .i64 j), (16, .p (some (2, 0))), (15, .sl none 0 0 0), (12, .p (some (1, 0))), (10, .p (some (0, 0))), (6, .b false), (1, .rs (acs A) 0 13 A.length), (0, .i .i64 most)]) (A.length - pl.toNat) ?_ ?_
          · refine Gh.regs [17, 16, 15, 12, 10, 6, 1, 0] (Gh.of ⟨pl.toNat, [], by omega, hnl, by omega, hlq, .inl ⟨rfl, rfl⟩, ?_⟩)
            rw [hpn]; rfl
          · rintro m r H ⟨j, lc, hj1, hj2, rfl, hlc, hst, rfl⟩
            have hokc : ∀ F ∈ lc, F.ok := hlc ▸ actsN_ok hA most hj2
            have hlnc : (lc.length : Int) ≤ most := hlc ▸ actsN_len (by omega) hj2
            by_cases h3 : (j : Int) < A.length
            · have hjl : j < A.length := by omega
              have ha := hA _ (List.getElem_mem hjl)
              have hlc2 : actL lc most A[j] = actsN A most (j + 1) := by rw [actsN_next hjl, ← hlc]
              rcases hst with ⟨rfl, rfl⟩ | ⟨cc, Yc, kc1, kc2, kc3, rfl⟩
              ·
                conv => whnf
                refine acond_t (decide_eq_true h3) ?_
                conv => whnf
                refine ⟨⟨by omega, h3⟩, ?_⟩
                conv => whnf
                refine aget_act (k := j) (by omega) hjl ?_
                conv => whnf
                refine ACall.frameH [2] [] rfl (args' := [.p (some (0, 0)), actAV A[j]]) (Hc := [.c [.sl none 0 0 0, .i .i64 most]]) rfl rfl (does_nil2 A[j] ha most (by omega)) ?_
                rintro r H ⟨rfl, ⟨hnc, rfl⟩ | ⟨hnc, cc, Yc, kc1, kc2, kc3, rfl⟩⟩
                ·
                  refine ⟨.inl rfl, [.c [.sl none 0 0 0, .i .i64 most], .c [.sl none 0 0 0, .i .i64 most], .c [.sl none 0 0 0, .i .i64 most]], rfl, ?_⟩
                  conv => whnf
                  refine Gh.regs [17, 16, 15, 12, 10, 6, 1, 0] (Gh.of ⟨A.length - (j + 1), by omega, j + 1, (actL [] most A[j]), by omega, by omega, rfl, hlc2, .inl ⟨hnc, rfl⟩, ?_⟩)
                  rw [w64 (by omega) (by omega)]; rfl
                · have hzc : ∀ φ, subs φ (frs (actL [] most A[j]) ++ Yc) = frs (actL [] most A[j]) ++ Yc := (Pl.frs _).app kc2
                  refine ⟨.inl rfl, [.c [.sl none 0 0 0, .i .i64 most], .c [.sl none 0 0 0, .i .i64 most], .c [.sl (some (3, 0)) 12 (actL [] most A[j]).length cc, .i .i64 most], .c (frs (actL [] most A[j]) ++ Yc)], (by show [_, _, _, Blk.c (subs _ _)] = _; simp only [hzc]; rfl), ?_⟩
                  conv => whnf
                  refine Gh.regs [17, 16, 15, 12, 10, 6, 1, 0] (Gh.of ⟨A.length - (j + 1), by omega, j + 1, (actL [] most A[j]), by omega, by omega, rfl, hlc2, .inr ⟨cc, Yc, kc1, kc2, kc3, rfl⟩, ?_⟩)
                  rw [w64 (by omega) (by omega)]; rfl
              ·
                conv => whnf
                refine acond_t (decide_eq_true h3) ?_
                conv => whnf
                refine ⟨⟨by omega, h3⟩, ?_⟩
                conv => whnf
                refine aget_act (k := j) (by omega) hjl ?_
                conv => whnf
                have hzc0 : ∀ φ, subs φ (frs lc ++ Yc) = frs lc ++ Yc := (Pl.frs _).app kc2
                refine ACall.frameH [2, 3] [] rfl (args' := [.p (some (0, 0)), actAV A[j]]) (Hc := [.c [.sl (some (1, 0)) 12 lc.length cc, .i .i64 most], .c (frs lc ++ Yc)]) rfl (by show [_, Blk.c (subs _ _)] = _; simp only [hzc0]; rfl) (does_spec lc hokc A[j] ha most cc Yc kc1 kc2 kc3 (by omega)) ?_
                clear hzc0 kc1 kc2 kc3
                rintro r H ⟨rfl, ⟨cc, Yc, kc1, kc2, kc3, rfl⟩ | ⟨cc, Yc, kc1, kc2, kc3, rfl⟩⟩
                · have hzc : ∀ φ, subs φ (frs (actL lc most A[j]) ++ Yc) = frs (actL lc most A[j]) ++ Yc := (Pl.frs _).app kc2
                  refine ⟨.inl rfl, [.c [.sl none 0 0 0, .i .i64 most], .c [.sl none 0 0 0, .i .i64 most], .c [.sl (some (3, 0)) 12 (actL lc most A[j]).length cc, .i .i64 most], .c (frs (actL lc most A[j]) ++ Yc)], (by show [_, _, _, Blk.c (subs _ _)] = _; simp only [hzc]; rfl), ?_⟩
                  conv => whnf
                  refine Gh.regs [17, 16, 15, 12, 10, 6, 1, 0] (Gh.of ⟨A.length - (j + 1), by omega, j + 1, (actL lc most A[j]), by omega, by omega, rfl, hlc2, .inr ⟨cc, Yc, kc1, kc2, kc3, rfl⟩, ?_⟩)
                  rw [w64 (by omega) (by omega)]; rfl
                · have hzc : ∀ φ, subs φ (frs (actL lc most A[j]) ++ Yc) = frs (actL lc most A[j]) ++ Yc := (Pl.frs _).app kc2
                  refine ⟨.inl rfl, [.c [.sl none 0 0 0, .i .i64 most], .c [.sl none 0 0 0, .i .i64 most], .c [.sl (some (4, 0)) 12 (actL lc most A[j]).length cc, .i .i64 most], .dead, .c (frs (actL lc most A[j]) ++ Yc)], (by show [_, _, _, _, Blk.c (subs _ _)] = _; simp only [hzc]; rfl), ?_⟩
                  conv => whnf
                  refine Gh.regs [17, 16, 15, 12, 10, 6, 1, 0] (Gh.sel [0, 1, 2, 4] rfl (Gh.of ⟨A.length - (j + 1), by omega, j + 1, (actL lc most A[j]), by omega, by omega, rfl, hlc2, .inr ⟨cc, Yc, kc1, kc2, kc3, (by show [_, _, _, Blk.c (subs _ _)] = _; simp only [hzc]; rfl)⟩, ?_⟩))
                  refine keep_eq (show keepR _ _ = [_, _, _, _, _, _, _, _] from rfl) ?_
                  simp only [subG, sub, subs_acs]
                  rw [w64 (by omega) (by omega)]; rfl
            · have hjl : j = A.length := by omega
              have hcw : lc = [] := by rw [hlc, hjl, ← hlw]
              rcases hst with ⟨rfl, rfl⟩ | ⟨cc, Yc, kc1, kc2, kc3, rfl⟩
              ·
                conv => whnf
                refine acond_f (decide_eq_false h3) ?_
                conv => whnf
                refine ACall.frameH [0] [] rfl (args' := [.p (some (0, 0))]) (Hc := [.c [.sl none 0 0 0, .i .i64 most]]) rfl rfl (qall_nil most) ?_
                rintro r H ⟨rfl, rfl⟩
                refine ⟨.inl rfl, [.c [.sl none 0 0 0, .i .i64 most], .c [.sl none 0 0 0, .i .i64 most], .c [.sl none 0 0 0, .i .i64 most]], rfl, ?_⟩
                conv => whnf
                refine ALoop.ind (ip := false) tok (fun m r H => H = [.c [.sl none 0 0 0, .i .i64 most], .c [.sl none 0 0 0, .i .i64 most], .c [.sl none 0 0 0, .i .i64 most]] ∧
                  r = [(19, .i .i64 0), (18, .sl none 0 0 0), (16, .p (some (2, 0))), (15, .sl none 0 0 0), (12, .p (some (1, 0))), (10, .p (some (0, 0))), (6, .b false), (0, .i .i64 most)]) 0 ?_ ?_
                · exact Gh.regs [19, 18, 16, 15, 12, 10, 6, 0] (Gh.of ⟨rfl, rfl⟩)
                · rintro m r H ⟨rfl, rfl⟩
                  conv => whnf
                  refine ALoop.ind (ip := false) tok (fun m r H => ∃ (t : Nat) (p : List Fr), t ≤ 20 ∧ m = 20 - t ∧ (p.length : Int) ≤ most ∧ (((t : Int) ≤ p.length) ∨ (p.length : Int) = most) ∧ (∀ F ∈ p, F.ok) ∧ (∀ F, [].count F ≤ p.count F) ∧
                    ((p = [] ∧ H = [.c [.sl none 0 0 0, .i .i64 most], .c [.sl none 0 0 0, .i .i64 most], .c [.sl none 0 0 0, .i .i64 most]]) ∨ (∃ cc Yc, p.length ≤ cc ∧ Pl Yc ∧ Yc.length = (cc - p.length) * 12 ∧ H = [.c [.sl none 0 0 0, .i .i64 most], .c [.sl none 0 0 0, .i .i64 most], .c [.sl (some (3, 0)) 12 p.length cc, .i .i64 most], .c (frs p ++ Yc)])) ∧
                    r = [(20, .i .i64 t), (16, .p (some (2, 0))), (15, .sl none 0 0 0), (12, .p (some (1, 0))), (10, .p (some (0, 0))), (6, .b false), (0, .i .i64 most)]) 20 ?_ ?_
                  · refine Gh.regs [20, 16, 15, 12, 10, 6, 0] (Gh.of ⟨0, [], by omega, by omega, hlnc, .inl (by omega), hokc, (fun F => Nat.le_of_eq (by rw [hcw])), .inl ⟨rfl, rfl⟩, ?_⟩)
                    rfl
                  · clear hokc hlnc hlc hcw
                    rintro m r H ⟨t, p, ht, rfl, hpm, hpt, hokp, hcnt, hst, rfl⟩
                    have hokF : (frQ t false).ok := frQ_ok t false (by omega)
                    by_cases h5 : (t : Int) < 20
                    · have hmay := frQ_may2 t (by omega)
                      have hok3 : ∀ F ∈ putL p (frQ t false), F.ok := fun F hF => by
                        rcases put_sub hF with rfl | h
                        · exact hokF
                        · exact hokp F h
                      have hcnt2 : ∀ F, [].count F ≤ (putL p (frQ t false)).count F := fun F => Nat.le_trans (hcnt F) (count_put_le p _ F)
                      have hpl2 : (putL p (frQ t false)).length = p.length + 1 := putL_length ..
                      rcases hst with ⟨rfl, rfl⟩ | ⟨cc, Yc, kc1, kc2, kc3, rfl⟩
                      ·
                        conv => whnf
                        refine acond_t (decide_eq_true h5) ?_
                        conv => whnf
                        refine ACall.frameH [2] [] rfl (args' := [.p (some (0, 0)), (frQ t false).av]) (Hc := [.c [.sl none 0 0 0, .i .i64 most]]) rfl rfl (qput_nil (frQ t false) hokF most (by omega)) ?_
                        rintro r H ⟨rfl, hh⟩
                        obtain ⟨_, cc, Yc, kc1, kc2, kc3, rfl⟩ := hh.resolve_right (fun h0 => h0.1 hmay)
                        have hzc : ∀ φ, subs φ (frs [frQ t false] ++ Yc) = frs [frQ t false] ++ Yc := (Pl.frs _).app kc2
                        refine ⟨.inl rfl, [.c [.sl none 0 0 0, .i .i64 most], .c [.sl none 0 0 0, .i .i64 most], .c [.sl (some (3, 0)) 12 [frQ t false].length cc, .i .i64 most], .c (frs [frQ t false] ++ Yc)], (by show [_, _, _, Blk.c (subs _ _)] = _; simp only [hzc]; rfl), ?_⟩
                        conv => whnf
                        refine Gh.regs [20, 16, 15, 12, 10, 6, 0] (Gh.of ⟨20 - (t + 1), by omega, t + 1, [frQ t false], by omega, rfl, (by simp; omega), (by simp at hpt ⊢; omega), hok3, hcnt2, .inr ⟨cc, Yc, kc1, kc2, kc3, rfl⟩, ?_⟩)
                        rw [w64 (by omega) (by omega)]; rfl
                      ·
                        conv => whnf
                        refine acond_t (decide_eq_true h5) ?_
                        conv => whnf
                        have hzc0 : ∀ φ, subs φ (frs p ++ Yc) = frs p ++ Yc := (Pl.frs _).app kc2
                        refine ACall.frameH [2, 3] [] rfl (args' := [.p (some (0, 0)), (frQ t false).av]) (Hc := [.c [.sl (some (1, 0)) 12 p.length cc, .i .i64 most], .c (frs p ++ Yc)]) rfl (by show [_, Blk.c (subs _ _)] = _; simp only [hzc0]; rfl) (qput_spec p hokp (frQ t false) hokF most cc Yc kc1 kc2 kc3 (by omega)) ?_
                        clear hzc0 kc1 kc2 kc3
                        rintro r H ⟨rfl, ⟨he, ⟨cc, Yc, kc1, kc2, kc3, rfl⟩ | ⟨cc, Yc, kc1, kc2, kc3, rfl⟩⟩ | ⟨he, cc, Yc, kc1, kc2, kc3, rfl⟩⟩
                        · have hzc : ∀ φ, subs φ (frs (putL p (frQ t false)) ++ Yc) = frs (putL p (frQ t false)) ++ Yc := (Pl.frs _).app kc2
                          have hlt : (p.length : Int) < most := by
                            unfold putE at he
                            rw [if_pos hmay] at he
                            split at he
                            · cases he
                            · omega
                          refine ⟨.inl rfl, [.c [.sl none 0 0 0, .i .i64 most], .c [.sl none 0 0 0, .i .i64 most], .c [.sl (some (3, 0)) 12 (putL p (frQ t false)).length cc, .i .i64 most], .c (frs (putL p (frQ t false)) ++ Yc)], (by show [_, _, _, Blk.c (subs _ _)] = _; simp only [hzc]; rfl), ?_⟩
                          conv => whnf
                          refine Gh.regs [20, 16, 15, 12, 10, 6, 0] (Gh.of ⟨20 - (t + 1), by omega, t + 1, (putL p (frQ t false)), by omega, rfl, by rw [hpl2]; omega, by rw [hpl2]; omega, hok3, hcnt2, .inr ⟨cc, Yc, kc1, kc2, kc3, rfl⟩, ?_⟩)
                          rw [w64 (by omega) (by omega)]; rfl
                        · have hzc : ∀ φ, subs φ (frs (putL p (frQ t false)) ++ Yc) = frs (putL p (frQ t false)) ++ Yc := (Pl.frs _).app kc2
                          have hlt : (p.length : Int) < most := by
                            unfold putE at he
                            rw [if_pos hmay] at he
                            split at he
                            · cases he
                            · omega
                          refine ⟨.inl rfl, [.c [.sl none 0 0 0, .i .i64 most], .c [.sl none 0 0 0, .i .i64 most], .c [.sl (some (4, 0)) 12 (putL p (frQ t false)).length cc, .i .i64 most], .dead, .c (frs (putL p (frQ t false)) ++ Yc)], (by show [_, _, _, _, Blk.c (subs _ _)] = _; simp only [hzc]; rfl), ?_⟩
                          conv => whnf
                          refine Gh.regs [20, 16, 15, 12, 10, 6, 0] (Gh.sel [0, 1, 2, 4] rfl (Gh.of ⟨20 - (t + 1), by omega, t + 1, (putL p (frQ t false)), by omega, rfl, by rw [hpl2]; omega, by rw [hpl2]; omega, hok3, hcnt2, .inr ⟨cc, Yc, kc1, kc2, kc3, (by show [_, _, _, Blk.c (subs _ _)] = _; simp only [hzc]; rfl)⟩, ?_⟩))
                          refine keep_eq (show keepR _ _ = [_, _, _, _, _, _, _] from rfl) ?_
                          simp only [subG, sub]
                          rw [w64 (by omega) (by omega)]; rfl
                        · have hzc : ∀ φ, subs φ (frs p ++ Yc) = frs p ++ Yc := (Pl.frs _).app kc2
                          have hlt : (p.length : Int) = most := by
                            unfold putE at he
                            rw [if_pos hmay] at he
                            split at he
                            · omega
                            · exact absurd rfl he
                          refine ⟨.inl rfl, [.c [.sl none 0 0 0, .i .i64 most], .c [.sl none 0 0 0, .i .i64 most], .c [.sl (some (3, 0)) 12 p.length cc, .i .i64 most], .c (frs p ++ Yc)], (by show [_, _, _, Blk.c (subs _ _)] = _; simp only [hzc]; rfl), ?_⟩
                          conv => whnf
                          refine Gh.regs [20, 16, 15, 12, 10, 6, 0] (Gh.of ⟨20 - (t + 1), by omega, t + 1, p, by omega, rfl, hpm, .inr hlt, hokp, hcnt, .inr ⟨cc, Yc, kc1, kc2, kc3, rfl⟩, ?_⟩)
                          rw [w64 (by omega) (by omega)]; rfl
                    · have hpl : (p.length : Int) = most := by omega
                      have hbq : ((p.length : Int) == most) = true := beq_iff_eq.2 hpl
                      rcases hst with ⟨rfl, rfl⟩ | ⟨cc, Yc, kc1, kc2, kc3, rfl⟩
                      · simp at hpl; omega
                      have hzc : ∀ φ, subs φ (frs p ++ Yc) = frs p ++ Yc := (Pl.frs _).app kc2
                      conv => whnf
                      refine acond_f (decide_eq_false h5) ?_
                      conv => whnf
                      refine ACall.frameH [0] [] rfl (args' := [.p (some (0, 0))]) (Hc := [.c [.sl none 0 0 0, .i .i64 most]]) rfl rfl (qall_nil most) ?_
                      rintro r H ⟨rfl, rfl⟩
                      refine ⟨.inl rfl, [.c [.sl none 0 0 0, .i .i64 most], .c [.sl none 0 0 0, .i .i64 most], .c [.sl (some (3, 0)) 12 p.length cc, .i .i64 most], .c (frs p ++ Yc)], rfl, ?_⟩
                      conv => whnf
                      refine ACall.frameH [] [] rfl (args' := [.sl none 0 0 0, .sl none 0 0 0]) (Hc := []) rfl rfl (ACall.args (same_self [] (by simp)) (VLe.nilrs (VLe.nilrs VLe.nil))) ?_
                      rintro r H ⟨rfl, rfl⟩
                      refine ⟨.inl rfl, [.c [.sl none 0 0 0, .i .i64 most], .c [.sl none 0 0 0, .i .i64 most], .c [.sl (some (3, 0)) 12 p.length cc, .i .i64 most], .c (frs p ++ Yc)], rfl, ?_⟩
                      conv => whnf
                      refine ACall.frameH [2, 3] [] rfl (args' := [.p (some (0, 0))]) (Hc := [.c [.sl (some (1, 0)) 12 p.length cc, .i .i64 most], .c (frs p ++ Yc)]) rfl (by show [_, Blk.c (subs _ _)] = _; simp only [hzc]; rfl) (qlen_spec (some (1, 0)) 12 p.length cc (.i .i64 most) [.c (frs p ++ Yc)]) ?_
                      rintro r H ⟨rfl, rfl⟩
                      refine ⟨.inl rfl, [.c [.sl none 0 0 0, .i .i64 most], .c [.sl none 0 0 0, .i .i64 most], .c [.sl (some (3, 0)) 12 p.length cc, .i .i64 most], .c (frs p ++ Yc)], (by show [_, _, _, Blk.c (subs _ _)] = _; simp only [hzc]; rfl), ?_⟩
                      conv => whnf
                      repeat (refine acond_t hbq ?_; conv => whnf)
                      refine ACall.frameH [1] [] rfl (args' := [.p (some (0, 0))]) (Hc := [.c [.sl none 0 0 0, .i .i64 most]]) rfl rfl (qlen_spec none 0 0 0 (.i .i64 most) []) ?_
                      rintro r H ⟨rfl, rfl⟩
                      refine ⟨.inl rfl, [.c [.sl none 0 0 0, .i .i64 most], .c [.sl none 0 0 0, .i .i64 most], .c [.sl (some (3, 0)) 12 p.length cc, .i .i64 most], .c (frs p ++ Yc)], rfl, ?_⟩
                      conv => whnf
                      repeat (first | (refine acond_t hbq ?_; conv => whnf) | (refine acond_t (decide_eq_true (show ((([] : List Fr).length : Nat) : Int) ≤ most from hlnw)) ?_; conv => whnf))
                      refine ACall.frameH [2, 3] [] rfl (args' := [.p (some (0, 0))]) (Hc := [.c [.sl (some (1, 0)) 12 p.length cc, .i .i64 most], .c (frs p ++ Yc)]) rfl (by show [_, Blk.c (subs _ _)] = _; simp only [hzc]; rfl) (qall_spec p most cc Yc kc2 (by omega)) ?_
                      rintro r H ⟨dc, hdc, rfl, rfl⟩
                      refine ⟨.inl rfl, [.c [.sl none 0 0 0, .i .i64 most], .c [.sl none 0 0 0, .i .i64 most], .c [.sl (some (3, 0)) 12 p.length cc, .i .i64 most], .c (frs p ++ Yc), .c (frs p)], (by show [_, _, _, Blk.c (subs _ _), Blk.c (subs _ _)] = _; simp only [hzc, hzf]; rfl), ?_⟩
                      conv => whnf
                      repeat (first | (refine acond_t hbq ?_; conv => whnf) | (refine acond_t (decide_eq_true (show ((([] : List Fr).length : Nat) : Int) ≤ most from hlnw)) ?_; conv => whnf))
                      refine ACall.frameH [1] [] rfl (args' := [.p (some (0, 0))]) (Hc := [.c [.sl none 0 0 0, .i .i64 most]]) rfl rfl (qall_nil most) ?_
                      rintro r H ⟨rfl, rfl⟩
                      refine ⟨.inl rfl, [.c [.sl none 0 0 0, .i .i64 most], .c [.sl none 0 0 0, .i .i64 most], .c [.sl (some (3, 0)) 12 p.length cc, .i .i64 most], .c (frs p ++ Yc), .c (frs p)], rfl, ?_⟩
                      conv => whnf
                      repeat (first | (refine acond_t hbq ?_; conv => whnf) | (refine acond_t (decide_eq_true (show ((([] : List Fr).length : Nat) : Int) ≤ most from hlnw)) ?_; conv => whnf))
                      refine ACall.frameH [] [4] rfl (args' := [.rs (frs p) 0 12 p.length, .sl none 0 0 0]) (Hc := []) (by show [AV.rs (subs _ (frs p)) 0 12 p.length, AV.sl none 0 0 0] = _; simp only [subs_frs]) rfl (ACall.args (has_spec p [] (by omega) (by simp) hcnt) (VLe.cons (VLe.nilrs VLe.nil))) ?_
                      rintro r H ⟨rfl, rfl⟩
                      refine ⟨.inr ⟨rfl, rfl⟩, [.c [.sl none 0 0 0, .i .i64 most], .c [.sl none 0 0 0, .i .i64 most], .c [.sl (some (3, 0)) 12 p.length cc, .i .i64 most], .c (frs p ++ Yc), .c (frs p)], rfl, ?_⟩
                      conv => whnf
                      repeat (first | (refine acond_t hbq ?_; conv => whnf) | (refine acond_t (decide_eq_true (show ((([] : List Fr).length : Nat) : Int) ≤ most from hlnw)) ?_; conv => whnf))
                      refine ACall.frameH [] [] rfl (args' := []) (Hc := []) rfl rfl awake9_spec ?_
                      rintro r H ⟨rfl, rfl⟩
                      refine ⟨.inl rfl, _, rfl, ?_⟩
                      conv => whnf
                      repeat (first | (refine acond_t hbq ?_; conv => whnf) | (refine acond_t (decide_eq_true (show ((([] : List Fr).length : Nat) : Int) ≤ most from hlnw)) ?_; conv => whnf))
                      exact GhR.sel [] rfl (GhR.of ⟨rfl, rfl⟩)
              ·
                have hzc : ∀ φ, subs φ (frs lc ++ Yc) = frs lc ++ Yc := (Pl.frs _).app kc2
                conv => whnf
                refine acond_f (decide_eq_false h3) ?_
                conv => whnf
                refine ACall.frameH [0] [] rfl (args' := [.p (some (0, 0))]) (Hc := [.c [.sl none 0 0 0, .i .i64 most]]) rfl rfl (qall_nil most) ?_
                rintro r H ⟨rfl, rfl⟩
                refine ⟨.inl rfl, [.c [.sl none 0 0 0, .i .i64 most], .c [.sl none 0 0 0, .i .i64 most], .c [.sl (some (3, 0)) 12 lc.length cc, .i .i64 most], .c (frs lc ++ Yc)], rfl, ?_⟩
                conv => whnf
                refine ALoop.ind (ip := false) tok (fun m r H => H = [.c [.sl none 0 0 0, .i .i64 most], .c [.sl none 0 0 0, .i .i64 most], .c [.sl (some (3, 0)) 12 lc.length cc, .i .i64 most], .c (frs lc ++ Yc)] ∧
                  r = [(19, .i .i64 0), (18, .sl none 0 0 0), (16, .p (some (2, 0))), (15, .sl none 0 0 0), (12, .p (some (1, 0))), (10, .p (some (0, 0))), (6, .b false), (0, .i .i64 most)]) 0 ?_ ?_
                · exact Gh.regs [19, 18, 16, 15, 12, 10, 6, 0] (Gh.of ⟨rfl, rfl⟩)
                · rintro m r H ⟨rfl, rfl⟩
                  conv => whnf
                  refine ALoop.ind (ip := false) tok (fun m r H => ∃ (t : Nat) (p : List Fr), t ≤ 20 ∧ m = 20 - t ∧ (p.length : Int) ≤ most ∧ (((t : Int) ≤ p.length) ∨ (p.length : Int) = most) ∧ (∀ F ∈ p, F.ok) ∧ (∀ F, [].count F ≤ p.count F) ∧
                    ((∃ cc Yc, p.length ≤ cc ∧ Pl Yc ∧ Yc.length = (cc - p.length) * 12 ∧ H = [.c [.sl none 0 0 0, .i .i64 most], .c [.sl none 0 0 0, .i .i64 most], .c [.sl (some (3, 0)) 12 p.length cc, .i .i64 most], .c (frs p ++ Yc)])) ∧
                    r = [(20, .i .i64 t), (16, .p (some (2, 0))), (15, .sl none 0 0 0), (12, .p (some (1, 0))), (10, .p (some (0, 0))), (6, .b false), (0, .i .i64 most)]) 20 ?_ ?_
                  · refine Gh.regs [20, 16, 15, 12, 10, 6, 0] (Gh.of ⟨0, lc, by omega, by omega, hlnc, .inl (by omega), hokc, (fun F => Nat.le_of_eq (by rw [hcw])), ⟨cc, Yc, kc1, kc2, kc3, rfl⟩, ?_⟩)
                    rfl
                  · clear hokc hlnc hlc hcw hzc kc1 kc2 kc3
                    rintro m r H ⟨t, p, ht, rfl, hpm, hpt, hokp, hcnt, hst, rfl⟩
                    have hokF : (frQ t false).ok := frQ_ok t false (by omega)
                    by_cases h5 : (t : Int) < 20
                    · have hmay := frQ_may2 t (by omega)
                      have hok3 : ∀ F ∈ putL p (frQ t false), F.ok := fun F hF => by
                        rcases put_sub hF with rfl | h
                        · exact hokF
                        · exact hokp F h
                      have hcnt2 : ∀ F, [].count F ≤ (putL p (frQ t false)).count F := fun F => Nat.le_trans (hcnt F) (count_put_le p _ F)
                      have hpl2 : (putL p (frQ t false)).length = p.length + 1 := putL_length ..
                      obtain ⟨cc, Yc, kc1, kc2, kc3, rfl⟩ := hst
                      conv => whnf
                      refine acond_t (decide_eq_true h5) ?_
                      conv => whnf
                      have hzc0 : ∀ φ, subs φ (frs p ++ Yc) = frs p ++ Yc := (Pl.frs _).app kc2
                      refine ACall.frameH [2, 3] [] rfl (args' := [.p (some (0, 0)), (frQ t false).av]) (Hc := [.c [.sl (some (1, 0)) 12 p.length cc, .i .i64 most], .c (frs p ++ Yc)]) rfl (by show [_, Blk.c (subs _ _)] = _; simp only [hzc0]; rfl) (qput_spec p hokp (frQ t false) hokF most cc Yc kc1 kc2 kc3 (by omega)) ?_
                      clear hzc0 kc1 kc2 kc3
                      rintro r H ⟨rfl, ⟨he, ⟨cc, Yc, kc1, kc2, kc3, rfl⟩ | ⟨cc, Yc, kc1, kc2, kc3, rfl⟩⟩ | ⟨he, cc, Yc, kc1, kc2, kc3, rfl⟩⟩
                      · have hzc : ∀ φ, subs φ (frs (putL p (frQ t false)) ++ Yc) = frs (putL p (frQ t false)) ++ Yc := (Pl.frs _).app kc2
                        have hlt : (p.length : Int) < most := by
                          unfold putE at he
                          rw [if_pos hmay] at he
                          split at he
                          · cases he
                          · omega
                        refine ⟨.inl rfl, [.c [.sl none 0 0 0, .i .i64 most], .c [.sl none 0 0 0, .i .i64 most], .c [.sl (some (3, 0)) 12 (putL p (frQ t false)).length cc, .i .i64 most], .c (frs (putL p (frQ t false)) ++ Yc)], (by show [_, _, _, Blk.c (subs _ _)] = _; simp only [hzc]; rfl), ?_⟩
                        conv => whnf
                        refine Gh.regs [20, 16, 15, 12, 10, 6, 0] (Gh.of ⟨20 - (t + 1), by omega, t + 1, (putL p (frQ t false)), by omega, rfl, by rw [hpl2]; omega, by rw [hpl2]; omega, hok3, hcnt2, ⟨cc, Yc, kc1, kc2, kc3, rfl⟩, ?_⟩)
                        rw [w64 (by omega) (by omega)]; rfl
                      · have hzc : ∀ φ, subs φ (frs (putL p (frQ t false)) ++ Yc) = frs (putL p (frQ t false)) ++ Yc := (Pl.frs _).app kc2
                        have hlt : (p.length : Int) < most := by
                          unfold putE at he
                          rw [if_pos hmay] at he
                          split at he
                          · cases he
                          · omega
                        refine ⟨.inl rfl, [.c [.sl none 0 0 0, .i .i64 most], .c [.sl none 0 0 0, .i .i64 most], .c [.sl (some (4, 0)) 12 (putL p (frQ t false)).length cc, .i .i64 most], .dead, .c (frs (putL p (frQ t false)) ++ Yc)], (by show [_, _, _, _, Blk.c (subs _ _)] = _; simp only [hzc]; rfl), ?_⟩
                        conv => whnf
                        refine Gh.regs [20, 16, 15, 12, 10, 6, 0] (Gh.sel [0, 1, 2, 4] rfl (Gh.of ⟨20 - (t + 1), by omega, t + 1, (putL p (frQ t false)), by omega, rfl, by rw [hpl2]; omega, by rw [hpl2]; omega, hok3, hcnt2, ⟨cc, Yc, kc1, kc2, kc3, (by show [_, _, _, Blk.c (subs _ _)] = _; simp only [hzc]; rfl)⟩, ?_⟩))
                        refine keep_eq (show keepR _ _ = [_, _, _, _, _, _, _] from rfl) ?_
                        simp only [subG, sub]
                        rw [w64 (by omega) (by omega)]; rfl
                      · have hzc : ∀ φ, subs φ (frs p ++ Yc) = frs p ++ Yc := (Pl.frs _).app kc2
                        have hlt : (p.length : Int) = most := by
                          unfold putE at he
                          rw [if_pos hmay] at he
                          split at he
                          · omega
                          · exact absurd rfl he
                        refine ⟨.inl rfl, [.c [.sl none 0 0 0, .i .i64 most], .c [.sl none 0 0 0, .i .i64 most], .c [.sl (some (3, 0)) 12 p.length cc, .i .i64 most], .c (frs p ++ Yc)], (by show [_, _, _, Blk.c (subs _ _)] = _; simp only [hzc]; rfl), ?_⟩
                        conv => whnf
                        refine Gh.regs [20, 16, 15, 12, 10, 6, 0] (Gh.of ⟨20 - (t + 1), by omega, t + 1, p, by omega, rfl, hpm, .inr hlt, hokp, hcnt, ⟨cc, Yc, kc1, kc2, kc3, rfl⟩, ?_⟩)
                        rw [w64 (by omega) (by omega)]; rfl
                    · have hpl : (p.length : Int) = most := by omega
                      have hbq : ((p.length : Int) == most) = true := beq_iff_eq.2 hpl
                      obtain ⟨cc, Yc, kc1, kc2, kc3, rfl⟩ := hst
                      have hzc : ∀ φ, subs φ (frs p ++ Yc) = frs p ++ Yc := (Pl.frs _).app kc2
                      conv => whnf
                      refine acond_f (decide_eq_false h5) ?_
                      conv => whnf
                      refine ACall.frameH [0] [] rfl (args' := [.p (some (0, 0))]) (Hc := [.c [.sl none 0 0 0, .i .i64 most]]) rfl rfl (qall_nil most) ?_
                      rintro r H ⟨rfl, rfl⟩
                      refine ⟨.inl rfl, [.c [.sl none 0 0 0, .i .i64 most], .c [.sl none 0 0 0, .i .i64 most], .c [.sl (some (3, 0)) 12 p.length cc, .i .i64 most], .c (frs p ++ Yc)], rfl, ?_⟩
                      conv => whnf
                      refine ACall.frameH [] [] rfl (args' := [.sl none 0 0 0, .sl none 0 0 0]) (Hc := []) rfl rfl (ACall.args (same_self [] (by simp)) (VLe.nilrs (VLe.nilrs VLe.nil))) ?_
                      rintro r H ⟨rfl, rfl⟩
                      refine ⟨.inl rfl, [.c [.sl none 0 0 0, .i .i64 most], .c [.sl none 0 0 0, .i .i64 most], .c [.sl (some (3, 0)) 12 p.length cc, .i .i64 most], .c (frs p ++ Yc)], rfl, ?_⟩
                      conv => whnf
                      refine ACall.frameH [2, 3] [] rfl (args' := [.p (some (0, 0))]) (Hc := [.c [.sl (some (1, 0)) 12 p.length cc, .i .i64 most], .c (frs p ++ Yc)]) rfl (by show [_, Blk.c (subs _ _)] = _; simp only [hzc]; rfl) (qlen_spec (some (1, 0)) 12 p.length cc (.i .i64 most) [.c (frs p ++ Yc)]) ?_
                      rintro r H ⟨rfl, rfl⟩
                      refine ⟨.inl rfl, [.c [.sl none 0 0 0, .i .i64 most], .c [.sl none 0 0 0, .i .i64 most], .c [.sl (some (3, 0)) 12 p.length cc, .i .i64 most], .c (frs p ++ Yc)], (by show [_, _, _, Blk.c (subs _ _)] = _; simp only [hzc]; rfl), ?_⟩
                      conv => whnf
                      repeat (refine acond_t hbq ?_; conv => whnf)
                      refine ACall.frameH [1] [] rfl (args' := [.p (some (0, 0))]) (Hc := [.c [.sl none 0 0 0, .i .i64 most]]) rfl rfl (qlen_spec none 0 0 0 (.i .i64 most) []) ?_
                      rintro r H ⟨rfl, rfl⟩
                      refine ⟨.inl rfl, [.c [.sl none 0 0 0, .i .i64 most], .c [.sl none 0 0 0, .i .i64 most], .c [.sl (some (3, 0)) 12 p.length cc, .i .i64 most], .c (frs p ++ Yc)], rfl, ?_⟩
                      conv => whnf
                      repeat (first | (refine acond_t hbq ?_; conv => whnf) | (refine acond_t (decide_eq_true (show ((([] : List Fr).length : Nat) : Int) ≤ most from hlnw)) ?_; conv => whnf))
                      refine ACall.frameH [2, 3] [] rfl (args' := [.p (some (0, 0))]) (Hc := [.c [.sl (some (1, 0)) 12 p.length cc, .i .i64 most], .c (frs p ++ Yc)]) rfl (by show [_, Blk.c (subs _ _)] = _; simp only [hzc]; rfl) (qall_spec p most cc Yc kc2 (by omega)) ?_
                      rintro r H ⟨dc, hdc, rfl, rfl⟩
                      refine ⟨.inl rfl, [.c [.sl none 0 0 0, .i .i64 most], .c [.sl none 0 0 0, .i .i64 most], .c [.sl (some (3, 0)) 12 p.length cc, .i .i64 most], .c (frs p ++ Yc), .c (frs p)], (by show [_, _, _, Blk.c (subs _ _), Blk.c (subs _ _)] = _; simp only [hzc, hzf]; rfl), ?_⟩
                      conv => whnf
                      repeat (first | (refine acond_t hbq ?_; conv => whnf) | (refine acond_t (decide_eq_true (show ((([] : List Fr).length : Nat) : Int) ≤ most from hlnw)) ?_; conv => whnf))
                      refine ACall.frameH [1] [] rfl (args' := [.p (some (0, 0))]) (Hc := [.c [.sl none 0 0 0, .i .i64 most]]) rfl rfl (qall_nil most) ?_
                      rintro r H ⟨rfl, rfl⟩
                      refine ⟨.inl rfl, [.c [.sl none 0 0 0, .i .i64 most], .c [.sl none 0 0 0, .i .i64 most], .c [.sl (some (3, 0)) 12 p.length cc, .i .i64 most], .c (frs p ++ Yc), .c (frs p)], rfl, ?_⟩
                      conv => whnf
                      repeat (first | (refine acond_t hbq ?_; conv => whnf) | (refine acond_t (decide_eq_true (show ((([] : List Fr).length : Nat) : Int) ≤ most from hlnw)) ?_; conv => whnf))
                      refine ACall.frameH [] [4] rfl (args' := [.rs (frs p) 0 12 p.length, .sl none 0 0 0]) (Hc := []) (by show [AV.rs (subs _ (frs p)) 0 12 p.length, AV.sl none 0 0 0] = _; simp only [subs_frs]) rfl (ACall.args (has_spec p [] (by omega) (by simp) hcnt) (VLe.cons (VLe.nilrs VLe.nil))) ?_
                      rintro r H ⟨rfl, rfl⟩
                      refine ⟨.inr ⟨rfl, rfl⟩, [.c [.sl none 0 0 0, .i .i64 most], .c [.sl none 0 0 0, .i .i64 most], .c [.sl (some (3, 0)) 12 p.length cc, .i .i64 most], .c (frs p ++ Yc), .c (frs p)], rfl, ?_⟩
                      conv => whnf
                      repeat (first | (refine acond_t hbq ?_; conv => whnf) | (refine acond_t (decide_eq_true (show ((([] : List Fr).length : Nat) : Int) ≤ most from hlnw)) ?_; conv => whnf))
                      refine ACall.frameH [] [] rfl (args' := []) (Hc := []) rfl rfl awake9_spec ?_
                      rintro r H ⟨rfl, rfl⟩
                      refine ⟨.inl rfl, _, rfl, ?_⟩
                      conv => whnf
                      repeat (first | (refine acond_t hbq ?_; conv => whnf) | (refine acond_t (decide_eq_true (show ((([] : List Fr).length : Nat) : Int) ≤ most from hlnw)) ?_; conv => whnf))
                      exact GhR.sel [] rfl (GhR.of ⟨rfl, rfl⟩)
        ·
          have hzq : ∀ φ, subs φ (frs lq ++ Yq) = frs lq ++ Yq := (Pl.frs _).app kq2
          conv => whnf
          refine acond_f (decide_eq_false h1) ?_
          conv => whnf
          refine ACall.frameH [0, 2] [] rfl (args' := [.p (some (0, 0))]) (Hc := [.c [.sl (some (1, 0)) 12 lq.length cq, .i .i64 most], .c (frs lq ++ Yq)]) rfl (by show [_, Blk.c (subs _ _)] = _; simp only [hzq]; rfl) (qall_spec lq most cq Yq kq2 (by omega)) ?_
          rintro r H ⟨dw, hdw, rfl, rfl⟩
          refine ⟨.inl rfl, [.c [.sl (some (2, 0)) 12 lq.length cq, .i .i64 most], .c [.sl none 0 0 0, .i .i64 most], .c (frs lq ++ Yq), .c (frs lq)], (by show [_, _, Blk.c (subs _ _), Blk.c (subs _ _)] = _; simp only [hzq, hzf]; rfl), ?_⟩
          conv => whnf
          refine ACall.frameH [0, 2] [] rfl (args' := [.p (some (0, 0))]) (Hc := [.c [.sl (some (1, 0)) 12 lq.length cq, .i .i64 most], .c (frs lq ++ Yq)]) rfl (by show [_, Blk.c (subs _ _)] = _; simp only [hzq]; rfl) (qclone_spec lq most cq Yq kq1 kq2 (by omega)) ?_
          rintro r H ⟨cc, Yc, kc1, kc2, kc3, rfl, rfl⟩
          have hzc : ∀ φ, subs φ (frs lq ++ Yc) = frs lq ++ Yc := (Pl.frs _).app kc2
          refine ⟨.inl rfl, [.c [.sl (some (2, 0)) 12 lq.length cq, .i .i64 most], .c [.sl none 0 0 0, .i .i64 most], .c (frs lq ++ Yq), .c (frs lq), .c [.sl (some (5, 0)) 12 lq.length cc, .i .i64 most], .c (frs lq ++ Yc)], (by show [_, _, Blk.c (subs _ _), _, _, Blk.c (subs _ _)] = _; simp only [hzq, hzc]; rfl), ?_⟩
          conv => whnf
          refine ALoop.ind (ip := false) tok (fun m r H => ∃ (j : Nat) (lc : List Fr), pl.toNat ≤ j ∧ j ≤ A.length ∧ m = A.length - j ∧ lc = actsN A most j ∧
            ((∃ cc Yc, lc.length ≤ cc ∧ Pl Yc ∧ Yc.length = (cc - lc.length) * 12 ∧ H = [.c [.sl (some (3, 0)) 12 lq.length cq, .i .i64 most], .c [.sl none 0 0 0, .i .i64 most], .c [.sl (some (5, 0)) 12 lc.length cc, .i .i64 most], .c (frs lq ++ Yq), .c (frs lq), .c (frs lc ++ Yc)])) ∧
            r = [(17, .i .i64 j), (16, .p (some (2, 0))), (15, .sl (some (4, 0)) 12 lq.length dw), (12, .p (some (1, 0))), (10, .p (some (0, 0))), (6, .b false), (1, .rs (acs A) 0 13 A.length), (0, .i .i64 most)]) (A.length - pl.toNat) ?_ ?_
          · refine Gh.regs [17, 16, 15, 12, 10, 6, 1, 0] (Gh.sel [0, 1, 4, 2, 3, 5] rfl (Gh.of ⟨pl.toNat, lq, by omega, hnl, by omega, hlq, ⟨cc, Yc, kc1, kc2, kc3, (by show [_, _, _, Blk.c (subs _ _), Blk.c (subs _ _), Blk.c (subs _ _)] = _; simp only [hzq, hzc, hzf]; rfl)⟩, ?_⟩))
            refine keep_eq (show keepR _ _ = [_, _, _, _, _, _, _, _] from rfl) ?_
            simp only [subG, sub, subs_acs]
            rw [hpn]; rfl
          · rintro m r H ⟨j, lc, hj1, hj2, rfl, hlc, hst, rfl⟩
            have hokc : ∀ F ∈ lc, F.ok := hlc ▸ actsN_ok hA most hj2
            have hlnc : (lc.length : Int) ≤ most := hlc ▸ actsN_len (by omega) hj2
            by_cases h3 : (j : Int) < A.length
            · have hjl : j < A.length := by omega
              have ha := hA _ (List.getElem_mem hjl)
              have hlc2 : actL lc most A[j] = actsN A most (j + 1) := by rw [actsN_next hjl, ← hlc]
              obtain ⟨cc, Yc, kc1, kc2, kc3, rfl⟩ := hst
              conv => whnf
              refine acond_t (decide_eq_true h3) ?_
              conv => whnf
              refine ⟨⟨by omega, h3⟩, ?_⟩
              conv => whnf
              refine aget_act (k := j) (by omega) hjl ?_
              conv => whnf
              have hzc0 : ∀ φ, subs φ (frs lc ++ Yc) = frs lc ++ Yc := (Pl.frs _).app kc2
              refine ACall.frameH [2, 5] [] rfl (args' := [.p (some (0, 0)), actAV A[j]]) (Hc := [.c [.sl (some (1, 0)) 12 lc.length cc, .i .i64 most], .c (frs lc ++ Yc)]) rfl (by show [_, Blk.c (subs _ _)] = _; simp only [hzc0]; rfl) (does_spec lc hokc A[j] ha most cc Yc kc1 kc2 kc3 (by omega)) ?_
              clear hzc0 kc1 kc2 kc3
              rintro r H ⟨rfl, ⟨cc, Yc, kc1, kc2, kc3, rfl⟩ | ⟨cc, Yc, kc1, kc2, kc3, rfl⟩⟩
              · have hzc : ∀ φ, subs φ (frs (actL lc most A[j]) ++ Yc) = frs (actL lc most A[j]) ++ Yc := (Pl.frs _).app kc2
                refine ⟨.inl rfl, [.c [.sl (some (3, 0)) 12 lq.length cq, .i .i64 most], .c [.sl none 0 0 0, .i .i64 most], .c [.sl (some (5, 0)) 12 (actL lc most A[j]).length cc, .i .i64 most], .c (frs lq ++ Yq), .c (frs lq), .c (frs (actL lc most A[j]) ++ Yc)], (by show [_, _, _, _, _, Blk.c (subs _ _)] = _; simp only [hzc]; rfl), ?_⟩
                conv => whnf
                refine Gh.regs [17, 16, 15, 12, 10, 6, 1, 0] (Gh.of ⟨A.length - (j + 1), by omega, j + 1, (actL lc most A[j]), by omega, by omega, rfl, hlc2, ⟨cc, Yc, kc1, kc2, kc3, rfl⟩, ?_⟩)
                rw [w64 (by omega) (by omega)]; rfl
              · have hzc : ∀ φ, subs φ (frs (actL lc most A[j]) ++ Yc) = frs (actL lc most A[j]) ++ Yc := (Pl.frs _).app kc2
                refine ⟨.inl rfl, [.c [.sl (some (3, 0)) 12 lq.length cq, .i .i64 most], .c [.sl none 0 0 0, .i .i64 most], .c [.sl (some (6, 0)) 12 (actL lc most A[j]).length cc, .i .i64 most], .c (frs lq ++ Yq), .c (frs lq), .dead, .c (frs (actL lc most A[j]) ++ Yc)], (by show [_, _, _, _, _, _, Blk.c (subs _ _)] = _; simp only [hzc]; rfl), ?_⟩
                conv => whnf
                refine Gh.regs [17, 16, 15, 12, 10, 6, 1, 0] (Gh.sel [0, 1, 2, 3, 4, 6] rfl (Gh.of ⟨A.length - (j + 1), by omega, j + 1, (actL lc most A[j]), by omega, by omega, rfl, hlc2, ⟨cc, Yc, kc1, kc2, kc3, (by show [_, _, _, Blk.c (subs _ _), Blk.c (subs _ _), Blk.c (subs _ _)] = _; simp only [hzq, hzc, hzf]; rfl)⟩, ?_⟩))
                refine keep_eq (show keepR _ _ = [_, _, _, _, _, _, _, _] from rfl) ?_
                simp only [subG, sub, subs_acs]
                rw [w64 (by omega) (by omega)]; rfl
            · have hjl : j = A.length := by omega
              have hcw : lc = [] := by rw [hlc, hjl, ← hlw]
              obtain ⟨cc, Yc, kc1, kc2, kc3, rfl⟩ := hst
              have hzc : ∀ φ, subs φ (frs lc ++ Yc) = frs lc ++ Yc := (Pl.frs _).app kc2
              conv => whnf
              refine acond_f (decide_eq_false h3) ?_
              conv => whnf
              refine ACall.frameH [0, 3] [] rfl (args' := [.p (some (0, 0))]) (Hc := [.c [.sl (some (1, 0)) 12 lq.length cq, .i .i64 most], .c (frs lq ++ Yq)]) rfl (by show [_, Blk.c (subs _ _)] = _; simp only [hzq]; rfl) (qall_spec lq most cq Yq kq2 (by omega)) ?_
              rintro r H ⟨dt, hdt, rfl, rfl⟩
              refine ⟨.inl rfl, [.c [.sl (some (3, 0)) 12 lq.length cq, .i .i64 most], .c [.sl none 0 0 0, .i .i64 most], .c [.sl (some (5, 0)) 12 lc.length cc, .i .i64 most], .c (frs lq ++ Yq), .c (frs lq), .c (frs lc ++ Yc), .c (frs lq)], (by show [_, _, _, Blk.c (subs _ _), _, _, Blk.c (subs _ _)] = _; simp only [hzq, hzf]; rfl), ?_⟩
              conv => whnf
              refine ALoop.ind (ip := false) tok (fun m r H => ∃ (t : Nat) (tl : List Fr), t ≤ lq.length ∧ m = lq.length - t ∧ tl.length = lq.length ∧ H = [.c [.sl (some (3, 0)) 12 lq.length cq, .i .i64 most], .c [.sl none 0 0 0, .i .i64 most], .c [.sl (some (5, 0)) 12 lc.length cc, .i .i64 most], .c (frs lq ++ Yq), .c (frs lq), .c (frs lc ++ Yc), .c (frs tl)] ∧
                r = [(19, .i .i64 t), (18, .sl (some (6, 0)) 12 lq.length dt), (16, .p (some (2, 0))), (15, .sl (some (4, 0)) 12 lq.length dw), (12, .p (some (1, 0))), (10, .p (some (0, 0))), (6, .b false), (0, .i .i64 most)]) lq.length ?_ ?_
              · exact Gh.regs [19, 18, 16, 15, 12, 10, 6, 0] (Gh.of ⟨0, lq, by omega, by omega, rfl, rfl, rfl⟩)
              · rintro m r H ⟨t, tl, ht, rfl, htl, rfl, rfl⟩
                have hfl : (frs tl).length = tl.length * 12 := frs_length tl
                by_cases h4 : (t : Int) < lq.length
                · have htt : t < tl.length := by omega
                  conv => whnf
                  refine acond_t (decide_eq_true h4) ?_
                  conv => whnf
                  refine ⟨⟨by omega, h4⟩, ?_⟩
                  conv => whnf
                  refine ⟨by show 0 + t * 12 + 0 + 1 ≤ (frs tl).length; omega, ?_⟩
                  conv => whnf
                  refine Gh.regs [19, 18, 16, 15, 12, 10, 6, 0] (Gh.of ⟨lq.length - (t + 1), by omega, t + 1, tl.set t { tl[t] with id := -1 }, by omega, rfl, by rw [List.length_set]; exact htl, ?_, ?_⟩)
                  · rw [← set_id (-1) tl t htt]; rfl
                  · rw [w64 (by omega) (by omega)]; rfl
                · conv => whnf
                  refine acond_f (decide_eq_false h4) ?_
                  conv => whnf
                  refine ALoop.ind (ip := false) tok (fun m r H => ∃ (t : Nat) (p : List Fr), t ≤ 20 ∧ m = 20 - t ∧ (p.length : Int) ≤ most ∧ (((t : Int) ≤ p.length) ∨ (p.length : Int) = most) ∧ (∀ F ∈ p, F.ok) ∧ (∀ F, [].count F ≤ p.count F) ∧
                    ((∃ cc Yc, p.length ≤ cc ∧ Pl Yc ∧ Yc.length = (cc - p.length) * 12 ∧ H = [.c [.sl (some (3, 0)) 12 lq.length cq, .i .i64 most], .c [.sl none 0 0 0, .i .i64 most], .c [.sl (some (5, 0)) 12 p.length cc, .i .i64 most], .c (frs lq ++ Yq), .c (frs lq), .c (frs p ++ Yc)])) ∧
                    r = [(20, .i .i64 t), (16, .p (some (2, 0))), (15, .sl (some (4, 0)) 12 lq.length dw), (12, .p (some (1, 0))), (10, .p (some (0, 0))), (6, .b false), (0, .i .i64 most)]) 20 ?_ ?_
                  · refine Gh.regs [20, 16, 15, 12, 10, 6, 0] (Gh.sel [0, 1, 2, 3, 4, 5] rfl (Gh.of ⟨0, lc, by omega, by omega, hlnc, .inl (by omega), hokc, (fun F => Nat.le_of_eq (by rw [hcw])), ⟨cc, Yc, kc1, kc2, kc3, (by show [_, _, _, Blk.c (subs _ _), Blk.c (subs _ _), Blk.c (subs _ _)] = _; simp only [hzq, hzc, hzf]; rfl)⟩, ?_⟩))
                    refine keep_eq (show keepR _ _ = [_, _, _, _, _, _, _] from rfl) ?_
                    simp only [subG, sub]
                    rfl
                  · clear hokc hlnc hlc hcw hzc kc1 kc2 kc3
                    rintro m r H ⟨t, p, ht, rfl, hpm, hpt, hokp, hcnt, hst, rfl⟩
                    have hokF : (frQ t false).ok := frQ_ok t false (by omega)
                    by_cases h5 : (t : Int) < 20
                    · have hmay := frQ_may2 t (by omega)
                      have hok3 : ∀ F ∈ putL p (frQ t false), F.ok := fun F hF => by
                        rcases put_sub hF with rfl | h
                        · exact hokF
                        · exact hokp F h
                      have hcnt2 : ∀ F, [].count F ≤ (putL p (frQ t false)).count F := fun F => Nat.le_trans (hcnt F) (count_put_le p _ F)
                      have hpl2 : (putL p (frQ t false)).length = p.length + 1 := putL_length ..
                      obtain ⟨cc, Yc, kc1, kc2, kc3, rfl⟩ := hst
                      conv => whnf
                      refine acond_t (decide_eq_true h5) ?_
                      conv => whnf
                      have hzc0 : ∀ φ, subs φ (frs p ++ Yc) = frs p ++ Yc := (Pl.frs _).app kc2
                      refine ACall.frameH [2, 5] [] rfl (args' := [.p (some (0, 0)), (frQ t false).av]) (Hc := [.c [.sl (some (1, 0)) 12 p.length cc, .i .i64 most], .c (frs p ++ Yc)]) rfl (by show [_, Blk.c (subs _ _)] = _; simp only [hzc0]; rfl) (qput_spec p hokp (frQ t false) hokF most cc Yc kc1 kc2 kc3 (by omega)) ?_
                      clear hzc0 kc1 kc2 kc3
                      rintro r H ⟨rfl, ⟨he, ⟨cc, Yc, kc1, kc2, kc3, rfl⟩ | ⟨cc, Yc, kc1, kc2, kc3, rfl⟩⟩ | ⟨he, cc, Yc, kc1, kc2, kc3, rfl⟩⟩
                      · have hzc : ∀ φ, subs φ (frs (putL p (frQ t false)) ++ Yc) = frs (putL p (frQ t false)) ++ Yc := (Pl.frs _).app kc2
                        have hlt : (p.length : Int) < most := by
                          unfold putE at he
                          rw [if_pos hmay] at he
                          split at he
                          · cases he
                          · omega
                        refine ⟨.inl rfl, [.c [.sl (some (3, 0)) 12 lq.length cq, .i .i64 most], .c [.sl none 0 0 0, .i .i64 most], .c [.sl (some (5, 0)) 12 (putL p (frQ t false)).length cc, .i .i64 most], .c (frs lq ++ Yq), .c (frs lq), .c (frs (putL p (frQ t false)) ++ Yc)], (by show [_, _, _, _, _, Blk.c (subs _ _)] = _; simp only [hzc]; rfl), ?_⟩
                        conv => whnf
                        refine Gh.regs [20, 16, 15, 12, 10, 6, 0] (Gh.of ⟨20 - (t + 1), by omega, t + 1, (putL p (frQ t false)), by omega, rfl, by rw [hpl2]; omega, by rw [hpl2]; omega, hok3, hcnt2, ⟨cc, Yc, kc1, kc2, kc3, rfl⟩, ?_⟩)
                        rw [w64 (by omega) (by omega)]; rfl
                      · have hzc : ∀ φ, subs φ (frs (putL p (frQ t false)) ++ Yc) = frs (putL p (frQ t false)) ++ Yc := (Pl.frs _).app kc2
                        have hlt : (p.length : Int) < most := by
                          unfold putE at he
                          rw [if_pos hmay] at he
                          split at he
                          · cases he
                          · omega
                        refine ⟨.inl rfl, [.c [.sl (some (3, 0)) 12 lq.length cq, .i .i64 most], .c [.sl none 0 0 0, .i .i64 most], .c [.sl (some (6, 0)) 12 (putL p (frQ t false)).length cc, .i .i64 most], .c (frs lq ++ Yq), .c (frs lq), .dead, .c (frs (putL p (frQ t false)) ++ Yc)], (by show [_, _, _, _, _, _, Blk.c (subs _ _)] = _; simp only [hzc]; rfl), ?_⟩
                        conv => whnf
                        refine Gh.regs [20, 16, 15, 12, 10, 6, 0] (Gh.sel [0, 1, 2, 3, 4, 6] rfl (Gh.of ⟨20 - (t + 1), by omega, t + 1, (putL p (frQ t false)), by omega, rfl, by rw [hpl2]; omega, by rw [hpl2]; omega, hok3, hcnt2, ⟨cc, Yc, kc1, kc2, kc3, (by show [_, _, _, Blk.c (subs _ _), Blk.c (subs _ _), Blk.c (subs _ _)] = _; simp only [hzq, hzc, hzf]; rfl)⟩, ?_⟩))
                        refine keep_eq (show keepR _ _ = [_, _, _, _, _, _, _] from rfl) ?_
                        simp only [subG, sub]
                        rw [w64 (by omega) (by omega)]; rfl
                      · have hzc : ∀ φ, subs φ (frs p ++ Yc) = frs p ++ Yc := (Pl.frs _).app kc2
                        have hlt : (p.length : Int) = most := by
                          unfold putE at he
                          rw [if_pos hmay] at he
                          split at he
                          · omega
                          · exact absurd rfl he
                        refine ⟨.inl rfl, [.c [.sl (some (3, 0)) 12 lq.length cq, .i .i64 most], .c [.sl none 0 0 0, .i .i64 most], .c [.sl (some (5, 0)) 12 p.length cc, .i .i64 most], .c (frs lq ++ Yq), .c (frs lq), .c (frs p ++ Yc)], (by show [_, _, _, _, _, Blk.c (subs _ _)] = _; simp only [hzc]; rfl), ?_⟩
                        conv => whnf
                        refine Gh.regs [20, 16, 15, 12, 10, 6, 0] (Gh.of ⟨20 - (t + 1), by omega, t + 1, p, by omega, rfl, hpm, .inr hlt, hokp, hcnt, ⟨cc, Yc, kc1, kc2, kc3, rfl⟩, ?_⟩)
                        rw [w64 (by omega) (by omega)]; rfl
                    · have hpl : (p.length : Int) = most := by omega
                      have hbq : ((p.length : Int) == most) = true := beq_iff_eq.2 hpl
                      obtain ⟨cc, Yc, kc1, kc2, kc3, rfl⟩ := hst
                      have hzc : ∀ φ, subs φ (frs p ++ Yc) = frs p ++ Yc := (Pl.frs _).app kc2
                      conv => whnf
                      refine acond_f (decide_eq_false h5) ?_
                      conv => whnf
                      refine ACall.frameH [0, 3] [] rfl (args' := [.p (some (0, 0))]) (Hc := [.c [.sl (some (1, 0)) 12 lq.length cq, .i .i64 most], .c (frs lq ++ Yq)]) rfl (by show [_, Blk.c (subs _ _)] = _; simp only [hzq]; rfl) (qall_spec lq most cq Yq kq2 (by omega)) ?_
                      rintro r H ⟨da, hda, rfl, rfl⟩
                      refine ⟨.inl rfl, [.c [.sl (some (3, 0)) 12 lq.length cq, .i .i64 most], .c [.sl none 0 0 0, .i .i64 most], .c [.sl (some (5, 0)) 12 p.length cc, .i .i64 most], .c (frs lq ++ Yq), .c (frs lq), .c (frs p ++ Yc), .c (frs lq)], (by show [_, _, _, Blk.c (subs _ _), _, _, Blk.c (subs _ _)] = _; simp only [hzq, hzf]; rfl), ?_⟩
                      conv => whnf
                      refine ACall.frameH [] [6, 4] rfl (args' := [.rs (frs lq) 0 12 lq.length, .rs (frs lq) 0 12 lq.length]) (Hc := []) (by show [AV.rs (subs _ (frs lq)) 0 12 lq.length, AV.rs (subs _ (frs lq)) 0 12 lq.length] = _; simp only [subs_frs]) rfl (same_self lq (by omega)) ?_
                      rintro r H ⟨rfl, rfl⟩
                      refine ⟨.inr ⟨rfl, rfl⟩, [.c [.sl (some (3, 0)) 12 lq.length cq, .i .i64 most], .c [.sl none 0 0 0, .i .i64 most], .c [.sl (some (5, 0)) 12 p.length cc, .i .i64 most], .c (frs lq ++ Yq), .c (frs lq), .c (frs p ++ Yc), .c (frs lq)], rfl, ?_⟩
                      conv => whnf
                      refine ACall.frameH [2, 5] [] rfl (args' := [.p (some (0, 0))]) (Hc := [.c [.sl (some (1, 0)) 12 p.length cc, .i .i64 most], .c (frs p ++ Yc)]) rfl (by show [_, Blk.c (subs _ _)] = _; simp only [hzc]; rfl) (qlen_spec (some (1, 0)) 12 p.length cc (.i .i64 most) [.c (frs p ++ Yc)]) ?_
                      rintro r H ⟨rfl, rfl⟩
                      refine ⟨.inl rfl, [.c [.sl (some (3, 0)) 12 lq.length cq, .i .i64 most], .c [.sl none 0 0 0, .i .i64 most], .c [.sl (some (5, 0)) 12 p.length cc, .i .i64 most], .c (frs lq ++ Yq), .c (frs lq), .c (frs p ++ Yc), .c (frs lq)], (by show [_, _, _, _, _, Blk.c (subs _ _), _] = _; simp only [hzc]; rfl), ?_⟩
                      conv => whnf
                      repeat (refine acond_t hbq ?_; conv => whnf)
                      refine ACall.frameH [1] [] rfl (args' := [.p (some (0, 0))]) (Hc := [.c [.sl none 0 0 0, .i .i64 most]]) rfl rfl (qlen_spec none 0 0 0 (.i .i64 most) []) ?_
                      rintro r H ⟨rfl, rfl⟩
                      refine ⟨.inl rfl, [.c [.sl (some (3, 0)) 12 lq.length cq, .i .i64 most], .c [.sl none 0 0 0, .i .i64 most], .c [.sl (some (5, 0)) 12 p.length cc, .i .i64 most], .c (frs lq ++ Yq), .c (frs lq), .c (frs p ++ Yc), .c (frs lq)], rfl, ?_⟩
                      conv => whnf
                      repeat (first | (refine acond_t hbq ?_; conv => whnf) | (refine acond_t (decide_eq_true (show ((([] : List Fr).length : Nat) : Int) ≤ most from hlnw)) ?_; conv => whnf))
                      refine ACall.frameH [2, 5] [] rfl (args' := [.p (some (0, 0))]) (Hc := [.c [.sl (some (1, 0)) 12 p.length cc, .i .i64 most], .c (frs p ++ Yc)]) rfl (by show [_, Blk.c (subs _ _)] = _; simp only [hzc]; rfl) (qall_spec p most cc Yc kc2 (by omega)) ?_
                      rintro r H ⟨dc, hdc, rfl, rfl⟩
                      refine ⟨.inl rfl, [.c [.sl (some (3, 0)) 12 lq.length cq, .i .i64 most], .c [.sl none 0 0 0, .i .i64 most], .c [.sl (some (5, 0)) 12 p.length cc, .i .i64 most], .c (frs lq ++ Yq), .c (frs lq), .c (frs p ++ Yc), .c (frs lq), .c (frs p)], (by show [_, _, _, _, _, Blk.c (subs _ _), _, Blk.c (subs _ _)] = _; simp only [hzc, hzf]; rfl), ?_⟩
                      conv => whnf
                      repeat (first | (refine acond_t hbq ?_; conv => whnf) | (refine acond_t (decide_eq_true (show ((([] : List Fr).length : Nat) : Int) ≤ most from hlnw)) ?_; conv => whnf))
                      refine ACall.frameH [1] [] rfl (args' := [.p (some (0, 0))]) (Hc := [.c [.sl none 0 0 0, .i .i64 most]]) rfl rfl (qall_nil most) ?_
                      rintro r H ⟨rfl, rfl⟩
                      refine ⟨.inl rfl, [.c [.sl (some (3, 0)) 12 lq.length cq, .i .i64 most], .c [.sl none 0 0 0, .i .i64 most], .c [.sl (some (5, 0)) 12 p.length cc, .i .i64 most], .c (frs lq ++ Yq), .c (frs lq), .c (frs p ++ Yc), .c (frs lq), .c (frs p)], rfl, ?_⟩
                      conv => whnf
                      repeat (first | (refine acond_t hbq ?_; conv => whnf) | (refine acond_t (decide_eq_true (show ((([] : List Fr).length : Nat) : Int) ≤ most from hlnw)) ?_; conv => whnf))
                      refine ACall.frameH [] [7] rfl (args' := [.rs (frs p) 0 12 p.length, .sl none 0 0 0]) (Hc := []) (by show [AV.rs (subs _ (frs p)) 0 12 p.length, AV.sl none 0 0 0] = _; simp only [subs_frs]) rfl (ACall.args (has_spec p [] (by omega) (by simp) hcnt) (VLe.cons (VLe.nilrs VLe.nil))) ?_
                      rintro r H ⟨rfl, rfl⟩
                      refine ⟨.inr ⟨rfl, rfl⟩, [.c [.sl (some (3, 0)) 12 lq.length cq, .i .i64 most], .c [.sl none 0 0 0, .i .i64 most], .c [.sl (some (5, 0)) 12 p.length cc, .i .i64 most], .c (frs lq ++ Yq), .c (frs lq), .c (frs p ++ Yc), .c (frs lq), .c (frs p)], rfl, ?_⟩
                      conv => whnf
                      repeat (first | (refine acond_t hbq ?_; conv => whnf) | (refine acond_t (decide_eq_true (show ((([] : List Fr).length : Nat) : Int) ≤ most from hlnw)) ?_; conv => whnf))
                      refine ACall.frameH [] [] rfl (args' := []) (Hc := []) rfl rfl awake9_spec ?_
                      rintro r H ⟨rfl, rfl⟩
                      refine ⟨.inl rfl, _, rfl, ?_⟩
                      conv => whnf
                      repeat (first | (refine acond_t hbq ?_; conv => whnf) | (refine acond_t (decide_eq_true (show ((([] : List Fr).length : Nat) : Int) ≤ most from hlnw)) ?_; conv => whnf))
                      exact GhR.sel [] rfl (GhR.of ⟨rfl, rfl⟩)
        ·
          have hzw : ∀ φ, subs φ (frs lw ++ Yw) = frs lw ++ Yw := (Pl.frs _).app kw2
          conv => whnf
          refine acond_f (decide_eq_false h1) ?_
          conv => whnf
          refine ACall.frameH [0] [] rfl (args' := [.p (some (0, 0))]) (Hc := [.c [.sl none 0 0 0, .i .i64 most]]) rfl rfl (qall_nil most) ?_
          rintro r H ⟨rfl, rfl⟩
          refine ⟨.inl rfl, [.c [.sl none 0 0 0, .i .i64 most], .c [.sl (some (2, 0)) 12 lw.length cw, .i .i64 most], .c (frs lw ++ Yw)], rfl, ?_⟩
          conv => whnf
          refine ACall.frameH [0] [] rfl (args' := [.p (some (0, 0))]) (Hc := [.c [.sl none 0 0 0, .i .i64 most]]) rfl rfl (qclone_nil most) ?_
          rintro r H ⟨rfl, rfl⟩
          refine ⟨.inl rfl, [.c [.sl none 0 0 0, .i .i64 most], .c [.sl (some (2, 0)) 12 lw.length cw, .i .i64 most], .c (frs lw ++ Yw), .c [.sl none 0 0 0, .i .i64 most]], rfl, ?_⟩
          conv => whnf
          refine ALoop.ind (ip := false) tok (fun m r H => ∃ (j : Nat) (lc : List Fr), pl.toNat ≤ j ∧ j ≤ A.length ∧ m = A.length - j ∧ lc = actsN A most j ∧
            ((lc = [] ∧ H = [.c [.sl none 0 0 0, .i .i64 most], .c [.sl (some (3, 0)) 12 lw.length cw, .i .i64 most], .c [.sl none 0 0 0, .i .i64 most], .c (frs lw ++ Yw)]) ∨ (∃ cc Yc, lc.length ≤ cc ∧ Pl Yc ∧ Yc.length = (cc - lc.length) * 12 ∧ H = [.c [.sl none 0 0 0, .i .i64 most], .c [.sl (some (3, 0)) 12 lw.length cw, .i .i64 most], .c [.sl (some (4, 0)) 12 lc.length cc, .i .i64 most], .c (frs lw ++ Yw), .c (frs lc ++ Yc)])) ∧
            r = [(17, .i .i64 j), (16, .p (some (2, 0))), (15, .sl none 0 0 0), (12, .p (some (1, 0))), (10, .p (some (0, 0))), (6, .b false), (1, .rs (acs A) 0 13 A.length), (0, .i .i64 most)]) (A.length - pl.toNat) ?_ ?_
          · refine Gh.regs [17, 16, 15, 12, 10, 6, 1, 0] (Gh.sel [0, 1, 3, 2] rfl (Gh.of ⟨pl.toNat, [], by omega, hnl, by omega, hlq, .inl ⟨rfl, (by show [_, _, _, Blk.c (subs _ _)] = _; simp only [hzw]; rfl)⟩, ?_⟩))
            refine keep_eq (show keepR _ _ = [_, _, _, _, _, _, _, _] from rfl) ?_
            simp only [subG, sub, subs_acs]
            rw [hpn]; rfl
          · rintro m r H ⟨j, lc, hj1, hj2, rfl, hlc, hst, rfl⟩
            have hokc : ∀ F ∈ lc, F.ok := hlc ▸ actsN_ok hA most hj2
            have hlnc : (lc.length : Int) ≤ most := hlc ▸ actsN_len (by omega) hj2
            by_cases h3 : (j : Int) < A.length
            · have hjl : j < A.length := by omega
              have ha := hA _ (List.getElem_mem hjl)
              have hlc2 : actL lc most A[j] = actsN A most (j + 1) := by rw [actsN_next hjl, ← hlc]
              rcases hst with ⟨rfl, rfl⟩ | ⟨cc, Yc, kc1, kc2, kc3, rfl⟩
              ·
                conv => whnf
                refine acond_t (decide_eq_true h3) ?_
                conv => whnf
                refine ⟨⟨by omega, h3⟩, ?_⟩
                conv => whnf
                refine aget_act (k := j) (by omega) hjl ?_
                conv => whnf
                refine ACall.frameH [2] [] rfl (args' := [.p (some (0, 0)), actAV A[j]]) (Hc := [.c [.sl none 0 0 0, .i .i64 most]]) rfl rfl (does_nil2 A[j] ha most (by omega)) ?_
                rintro r H ⟨rfl, ⟨hnc, rfl⟩ | ⟨hnc, cc, Yc, kc1, kc2, kc3, rfl⟩⟩
                ·
                  refine ⟨.inl rfl, [.c [.sl none 0 0 0, .i .i64 most], .c [.sl (some (3, 0)) 12 lw.length cw, .i .i64 most], .c [.sl none 0 0 0, .i .i64 most], .c (frs lw ++ Yw)], rfl, ?_⟩
                  conv => whnf
                  refine Gh.regs [17, 16, 15, 12, 10, 6, 1, 0] (Gh.of ⟨A.length - (j + 1), by omega, j + 1, (actL [] most A[j]), by omega, by omega, rfl, hlc2, .inl ⟨hnc, rfl⟩, ?_⟩)
                  rw [w64 (by omega) (by omega)]; rfl
                · have hzc : ∀ φ, subs φ (frs (actL [] most A[j]) ++ Yc) = frs (actL [] most A[j]) ++ Yc := (Pl.frs _).app kc2
                  refine ⟨.inl rfl, [.c [.sl none 0 0 0, .i .i64 most], .c [.sl (some (3, 0)) 12 lw.length cw, .i .i64 most], .c [.sl (some (4, 0)) 12 (actL [] most A[j]).length cc, .i .i64 most], .c (frs lw ++ Yw), .c (frs (actL [] most A[j]) ++ Yc)], (by show [_, _, _, _, Blk.c (subs _ _)] = _; simp only [hzc]; rfl), ?_⟩
                  conv => whnf
                  refine Gh.regs [17, 16, 15, 12, 10, 6, 1, 0] (Gh.of ⟨A.length - (j + 1), by omega, j + 1, (actL [] most A[j]), by omega, by omega, rfl, hlc2, .inr ⟨cc, Yc, kc1, kc2, kc3, rfl⟩, ?_⟩)
                  rw [w64 (by omega) (by omega)]; rfl
              ·
                conv => whnf
                refine acond_t (decide_eq_true h3) ?_
                conv => whnf
                refine ⟨⟨by omega, h3⟩, ?_⟩
                conv => whnf
                refine aget_act (k := j) (by omega) hjl ?_
                conv => whnf
                have hzc0 : ∀ φ, subs φ (frs lc ++ Yc) = frs lc ++ Yc := (Pl.frs _).app kc2
                refine ACall.frameH [2, 4] [] rfl (args' := [.p (some (0, 0)), actAV A[j]]) (Hc := [.c [.sl (some (1, 0)) 12 lc.length cc, .i .i64 most], .c (frs lc ++ Yc)]) rfl (by show [_, Blk.c (subs _ _)] = _; simp only [hzc0]; rfl) (does_spec lc hokc A[j] ha most cc Yc kc1 kc2 kc3 (by omega)) ?_
                clear hzc0 kc1 kc2 kc3
                rintro r H ⟨rfl, ⟨cc, Yc, kc1, kc2, kc3, rfl⟩ | ⟨cc, Yc, kc1, kc2, kc3, rfl⟩⟩
                · have hzc : ∀ φ, subs φ (frs (actL lc most A[j]) ++ Yc) = frs (actL lc most A[j]) ++ Yc := (Pl.frs _).app kc2
                  refine ⟨.inl rfl, [.c [.sl none 0 0 0, .i .i64 most], .c [.sl (some (3, 0)) 12 lw.length cw, .i .i64 most], .c [.sl (some (4, 0)) 12 (actL lc most A[j]).length cc, .i .i64 most], .c (frs lw ++ Yw), .c (frs (actL lc most A[j]) ++ Yc)], (by show [_, _, _, _, Blk.c (subs _ _)] = _; simp only [hzc]; rfl), ?_⟩
                  conv => whnf
                  refine Gh.regs [17, 16, 15, 12, 10, 6, 1, 0] (Gh.of ⟨A.length - (j + 1), by omega, j + 1, (actL lc most A[j]), by omega, by omega, rfl, hlc2, .inr ⟨cc, Yc, kc1, kc2, kc3, rfl⟩, ?_⟩)
                  rw [w64 (by omega) (by omega)]; rfl
                · have hzc : ∀ φ, subs φ (frs (actL lc most A[j]) ++ Yc) = frs (actL lc most A[j]) ++ Yc := (Pl.frs _).app kc2
                  refine ⟨.inl rfl, [.c [.sl none 0 0 0, .i .i64 most], .c [.sl (some (3, 0)) 12 lw.length cw, .i .i64 most], .c [.sl (some (5, 0)) 12 (actL lc most A[j]).length cc, .i .i64 most], .c (frs lw ++ Yw), .dead, .c (frs (actL lc most A[j]) ++ Yc)], (by show [_, _, _, _, _, Blk.c (subs _ _)] = _; simp only [hzc]; rfl), ?_⟩
                  conv => whnf
                  refine Gh.regs [17, 16, 15, 12, 10, 6, 1, 0] (Gh.sel [0, 1, 2, 3, 5] rfl (Gh.of ⟨A.length - (j + 1), by omega, j + 1, (actL lc most A[j]), by omega, by omega, rfl, hlc2, .inr ⟨cc, Yc, kc1, kc2, kc3, (by show [_, _, _, Blk.c (subs _ _), Blk.c (subs _ _)] = _; simp only [hzw, hzc]; rfl)⟩, ?_⟩))
                  refine keep_eq (show keepR _ _ = [_, _, _, _, _, _, _, _] from rfl) ?_
                  simp only [subG, sub, subs_acs]
                  rw [w64 (by omega) (by omega)]; rfl
            · have hjl : j = A.length := by omega
              have hcw : lc = lw := by rw [hlc, hjl, ← hlw]
              rcases hst with ⟨rfl, rfl⟩ | ⟨cc, Yc, kc1, kc2, kc3, rfl⟩
              ·
                conv => whnf
                refine acond_f (decide_eq_false h3) ?_
                conv => whnf
                refine ACall.frameH [0] [] rfl (args' := [.p (some (0, 0))]) (Hc := [.c [.sl none 0 0 0, .i .i64 most]]) rfl rfl (qall_nil most) ?_
                rintro r H ⟨rfl, rfl⟩
                refine ⟨.inl rfl, [.c [.sl none 0 0 0, .i .i64 most], .c [.sl (some (3, 0)) 12 lw.length cw, .i .i64 most], .c [.sl none 0 0 0, .i .i64 most], .c (frs lw ++ Yw)], rfl, ?_⟩
                conv => whnf
                refine ALoop.ind (ip := false) tok (fun m r H => H = [.c [.sl none 0 0 0, .i .i64 most], .c [.sl (some (3, 0)) 12 lw.length cw, .i .i64 most], .c [.sl none 0 0 0, .i .i64 most], .c (frs lw ++ Yw)] ∧
                  r = [(19, .i .i64 0), (18, .sl none 0 0 0), (16, .p (some (2, 0))), (15, .sl none 0 0 0), (12, .p (some (1, 0))), (10, .p (some (0, 0))), (6, .b false), (0, .i .i64 most)]) 0 ?_ ?_
                · exact Gh.regs [19, 18, 16, 15, 12, 10, 6, 0] (Gh.of ⟨rfl, rfl⟩)
                · rintro m r H ⟨rfl, rfl⟩
                  conv => whnf
                  refine ALoop.ind (ip := false) tok (fun m r H => ∃ (t : Nat) (p : List Fr), t ≤ 20 ∧ m = 20 - t ∧ (p.length : Int) ≤ most ∧ (((t : Int) ≤ p.length) ∨ (p.length : Int) = most) ∧ (∀ F ∈ p, F.ok) ∧ (∀ F, lw.count F ≤ p.count F) ∧
                    ((p = [] ∧ H = [.c [.sl none 0 0 0, .i .i64 most], .c [.sl (some (3, 0)) 12 lw.length cw, .i .i64 most], .c [.sl none 0 0 0, .i .i64 most], .c (frs lw ++ Yw)]) ∨ (∃ cc Yc, p.length ≤ cc ∧ Pl Yc ∧ Yc.length = (cc - p.length) * 12 ∧ H = [.c [.sl none 0 0 0, .i .i64 most], .c [.sl (some (3, 0)) 12 lw.length cw, .i .i64 most], .c [.sl (some (4, 0)) 12 p.length cc, .i .i64 most], .c (frs lw ++ Yw), .c (frs p ++ Yc)])) ∧
                    r = [(20, .i .i64 t), (16, .p (some (2, 0))), (15, .sl none 0 0 0), (12, .p (some (1, 0))), (10, .p (some (0, 0))), (6, .b false), (0, .i .i64 most)]) 20 ?_ ?_
                  · refine Gh.regs [20, 16, 15, 12, 10, 6, 0] (Gh.of ⟨0, [], by omega, by omega, hlnc, .inl (by omega), hokc, (fun F => Nat.le_of_eq (by rw [hcw])), .inl ⟨rfl, rfl⟩, ?_⟩)
                    rfl
                  · clear hokc hlnc hlc hcw
                    rintro m r H ⟨t, p, ht, rfl, hpm, hpt, hokp, hcnt, hst, rfl⟩
                    have hokF : (frQ t false).ok := frQ_ok t false (by omega)
                    by_cases h5 : (t : Int) < 20
                    · have hmay := frQ_may2 t (by omega)
                      have hok3 : ∀ F ∈ putL p (frQ t false), F.ok := fun F hF => by
                        rcases put_sub hF with rfl | h
                        · exact hokF
                        · exact hokp F h
                      have hcnt2 : ∀ F, lw.count F ≤ (putL p (frQ t false)).count F := fun F => Nat.le_trans (hcnt F) (count_put_le p _ F)
                      have hpl2 : (putL p (frQ t false)).length = p.length + 1 := putL_length ..
                      rcases hst with ⟨rfl, rfl⟩ | ⟨cc, Yc, kc1, kc2, kc3, rfl⟩
                      ·
                        conv => whnf
                        refine acond_t (decide_eq_true h5) ?_
                        conv => whnf
                        refine ACall.frameH [2] [] rfl (args' := [.p (some (0, 0)), (frQ t false).av]) (Hc := [.c [.sl none 0 0 0, .i .i64 most]]) rfl rfl (qput_nil (frQ t false) hokF most (by omega)) ?_
                        rintro r H ⟨rfl, hh⟩
                        obtain ⟨_, cc, Yc, kc1, kc2, kc3, rfl⟩ := hh.resolve_right (fun h0 => h0.1 hmay)
                        have hzc : ∀ φ, subs φ (frs [frQ t false] ++ Yc) = frs [frQ t false] ++ Yc := (Pl.frs _).app kc2
                        refine ⟨.inl rfl, [.c [.sl none 0 0 0, .i .i64 most], .c [.sl (some (3, 0)) 12 lw.length cw, .i .i64 most], .c [.sl (some (4, 0)) 12 [frQ t false].length cc, .i .i64 most], .c (frs lw ++ Yw), .c (frs [frQ t false] ++ Yc)], (by show [_, _, _, _, Blk.c (subs _ _)] = _; simp only [hzc]; rfl), ?_⟩
                        conv => whnf
                        refine Gh.regs [20, 16, 15, 12, 10, 6, 0] (Gh.of ⟨20 - (t + 1), by omega, t + 1, [frQ t false], by omega, rfl, (by simp; omega), (by simp at hpt ⊢; omega), hok3, hcnt2, .inr ⟨cc, Yc, kc1, kc2, kc3, rfl⟩, ?_⟩)
                        rw [w64 (by omega) (by omega)]; rfl
                      ·
                        conv => whnf
                        refine acond_t (decide_eq_true h5) ?_
                        conv => whnf
                        have hzc0 : ∀ φ, subs φ (frs p ++ Yc) = frs p ++ Yc := (Pl.frs _).app kc2
                        refine ACall.frameH [2, 4] [] rfl (args' := [.p (some (0, 0)), (frQ t false).av]) (Hc := [.c [.sl (some (1, 0)) 12 p.length cc, .i .i64 most], .c (frs p ++ Yc)]) rfl (by show [_, Blk.c (subs _ _)] = _; simp only [hzc0]; rfl) (qput_spec p hokp (frQ t false) hokF most cc Yc kc1 kc2 kc3 (by omega)) ?_
                        clear hzc0 kc1 kc2 kc3
                        rintro r H ⟨rfl, ⟨he, ⟨cc, Yc, kc1, kc2, kc3, rfl⟩ | ⟨cc, Yc, kc1, kc2, kc3, rfl⟩⟩ | ⟨he, cc, Yc, kc1, kc2, kc3, rfl⟩⟩
                        · have hzc : ∀ φ, subs φ (frs (putL p (frQ t false)) ++ Yc) = frs (putL p (frQ t false)) ++ Yc := (Pl.frs _).app kc2
                          have hlt : (p.length : Int) < most := by
                            unfold putE at he
                            rw [if_pos hmay] at he
                            split at he
                            · cases he
                            · omega
                          refine ⟨.inl rfl, [.c [.sl none 0 0 0, .i .i64 most], .c [.sl (some (3, 0)) 12 lw.length cw, .i .i64 most], .c [.sl (some (4, 0)) 12 (putL p (frQ t false)).length cc, .i .i64 most], .c (frs lw ++ Yw), .c (frs (putL p (frQ t false)) ++ Yc)], (by show [_, _, _, _, Blk.c (subs _ _)] = _; simp only [hzc]; rfl), ?_⟩
                          conv => whnf
                          refine Gh.regs [20, 16, 15, 12, 10, 6, 0] (Gh.of ⟨20 - (t + 1), by omega, t + 1, (putL p (frQ t false)), by omega, rfl, by rw [hpl2]; omega, by rw [hpl2]; omega, hok3, hcnt2, .inr ⟨cc, Yc, kc1, kc2, kc3, rfl⟩, ?_⟩)
                          rw [w64 (by omega) (by omega)]; rfl
                        · have hzc : ∀ φ, subs φ (frs (putL p (frQ t false)) ++ Yc) = frs (putL p (frQ t false)) ++ Yc := (Pl.frs _).app kc2
                          have hlt : (p.length : Int) < most := by
                            unfold putE at he
                            rw [if_pos hmay] at he
                            split at he
                            · cases he
                            · omega
                          refine ⟨.inl rfl, [.c [.sl none 0 0 0, .i .i64 most], .c [.sl (some (3, 0)) 12 lw.length cw, .i .i64 most], .c [.sl (some (5, 0)) 12 (putL p (frQ t false)).length cc, .i .i64 most], .c (frs lw ++ Yw), .dead, .c (frs (putL p (frQ t false)) ++ Yc)], (by show [_, _, _, _, _, Blk.c (subs _ _)] = _; simp only [hzc]; rfl), ?_⟩
                          conv => whnf
                          refine Gh.regs [20, 16, 15, 12, 10, 6, 0] (Gh.sel [0, 1, 2, 3, 5] rfl (Gh.of ⟨20 - (t + 1), by omega, t + 1, (putL p (frQ t false)), by omega, rfl, by rw [hpl2]; omega, by rw [hpl2]; omega, hok3, hcnt2, .inr ⟨cc, Yc, kc1, kc2, kc3, (by show [_, _, _, Blk.c (subs _ _), Blk.c (subs _ _)] = _; simp only [hzw, hzc]; rfl)⟩, ?_⟩))
                          refine keep_eq (show keepR _ _ = [_, _, _, _, _, _, _] from rfl) ?_
                          simp only [subG, sub]
                          rw [w64 (by omega) (by omega)]; rfl
                        · have hzc : ∀ φ, subs φ (frs p ++ Yc) = frs p ++ Yc := (Pl.frs _).app kc2
                          have hlt : (p.length : Int) = most := by
                            unfold putE at he
                            rw [if_pos hmay] at he
                            split at he
                            · omega
                            · exact absurd rfl he
                          refine ⟨.inl rfl, [.c [.sl none 0 0 0, .i .i64 most], .c [.sl (some (3, 0)) 12 lw.length cw, .i .i64 most], .c [.sl (some (4, 0)) 12 p.length cc, .i .i64 most], .c (frs lw ++ Yw), .c (frs p ++ Yc)], (by show [_, _, _, _, Blk.c (subs _ _)] = _; simp only [hzc]; rfl), ?_⟩
                          conv => whnf
                          refine Gh.regs [20, 16, 15, 12, 10, 6, 0] (Gh.of ⟨20 - (t + 1), by omega, t + 1, p, by omega, rfl, hpm, .inr hlt, hokp, hcnt, .inr ⟨cc, Yc, kc1, kc2, kc3, rfl⟩, ?_⟩)
                          rw [w64 (by omega) (by omega)]; rfl
                    · have hpl : (p.length : Int) = most := by omega
                      have hbq : ((p.length : Int) == most) = true := beq_iff_eq.2 hpl
                      rcases hst with ⟨rfl, rfl⟩ | ⟨cc, Yc, kc1, kc2, kc3, rfl⟩
                      · simp at hpl; omega
                      have hzc : ∀ φ, subs φ (frs p ++ Yc) = frs p ++ Yc := (Pl.frs _).app kc2
                      conv => whnf
                      refine acond_f (decide_eq_false h5) ?_
                      conv => whnf
                      refine ACall.frameH [0] [] rfl (args' := [.p (some (0, 0))]) (Hc := [.c [.sl none 0 0 0, .i .i64 most]]) rfl rfl (qall_nil most) ?_
                      rintro r H ⟨rfl, rfl⟩
                      refine ⟨.inl rfl, [.c [.sl none 0 0 0, .i .i64 most], .c [.sl (some (3, 0)) 12 lw.length cw, .i .i64 most], .c [.sl (some (4, 0)) 12 p.length cc, .i .i64 most], .c (frs lw ++ Yw), .c (frs p ++ Yc)], rfl, ?_⟩
                      conv => whnf
                      refine ACall.frameH [] [] rfl (args' := [.sl none 0 0 0, .sl none 0 0 0]) (Hc := []) rfl rfl (ACall.args (same_self [] (by simp)) (VLe.nilrs (VLe.nilrs VLe.nil))) ?_
                      rintro r H ⟨rfl, rfl⟩
                      refine ⟨.inl rfl, [.c [.sl none 0 0 0, .i .i64 most], .c [.sl (some (3, 0)) 12 lw.length cw, .i .i64 most], .c [.sl (some (4, 0)) 12 p.length cc, .i .i64 most], .c (frs lw ++ Yw), .c (frs p ++ Yc)], rfl, ?_⟩
                      conv => whnf
                      refine ACall.frameH [2, 4] [] rfl (args' := [.p (some (0, 0))]) (Hc := [.c [.sl (some (1, 0)) 12 p.length cc, .i .i64 most], .c (frs p ++ Yc)]) rfl (by show [_, Blk.c (subs _ _)] = _; simp only [hzc]; rfl) (qlen_spec (some (1, 0)) 12 p.length cc (.i .i64 most) [.c (frs p ++ Yc)]) ?_
                      rintro r H ⟨rfl, rfl⟩
                      refine ⟨.inl rfl, [.c [.sl none 0 0 0, .i .i64 most], .c [.sl (some (3, 0)) 12 lw.length cw, .i .i64 most], .c [.sl (some (4, 0)) 12 p.length cc, .i .i64 most], .c (frs lw ++ Yw), .c (frs p ++ Yc)], (by show [_, _, _, _, Blk.c (subs _ _)] = _; simp only [hzc]; rfl), ?_⟩
                      conv => whnf
                      repeat (refine acond_t hbq ?_; conv => whnf)
                      refine ACall.frameH [1, 3] [] rfl (args' := [.p (some (0, 0))]) (Hc := [.c [.sl (some (1, 0)) 12 lw.length cw, .i .i64 most], .c (frs lw ++ Yw)]) rfl (by show [_, Blk.c (subs _ _)] = _; simp only [hzw]; rfl) (qlen_spec (some (1, 0)) 12 lw.length cw (.i .i64 most) [.c (frs lw ++ Yw)]) ?_
                      rintro r H ⟨rfl, rfl⟩
                      refine ⟨.inl rfl, [.c [.sl none 0 0 0, .i .i64 most], .c [.sl (some (3, 0)) 12 lw.length cw, .i .i64 most], .c [.sl (some (4, 0)) 12 p.length cc, .i .i64 most], .c (frs lw ++ Yw), .c (frs p ++ Yc)], (by show [_, _, _, Blk.c (subs _ _), _] = _; simp only [hzw]; rfl), ?_⟩
                      conv => whnf
                      repeat (first | (refine acond_t hbq ?_; conv => whnf) | (refine acond_t (decide_eq_true (show ((lw.length : Nat) : Int) ≤ most from hlnw)) ?_; conv => whnf))
                      refine ACall.frameH [2, 4] [] rfl (args' := [.p (some (0, 0))]) (Hc := [.c [.sl (some (1, 0)) 12 p.length cc, .i .i64 most], .c (frs p ++ Yc)]) rfl (by show [_, Blk.c (subs _ _)] = _; simp only [hzc]; rfl) (qall_spec p most cc Yc kc2 (by omega)) ?_
                      rintro r H ⟨dc, hdc, rfl, rfl⟩
                      refine ⟨.inl rfl, [.c [.sl none 0 0 0, .i .i64 most], .c [.sl (some (3, 0)) 12 lw.length cw, .i .i64 most], .c [.sl (some (4, 0)) 12 p.length cc, .i .i64 most], .c (frs lw ++ Yw), .c (frs p ++ Yc), .c (frs p)], (by show [_, _, _, _, Blk.c (subs _ _), Blk.c (subs _ _)] = _; simp only [hzc, hzf]; rfl), ?_⟩
                      conv => whnf
                      repeat (first | (refine acond_t hbq ?_; conv => whnf) | (refine acond_t (decide_eq_true (show ((lw.length : Nat) : Int) ≤ most from hlnw)) ?_; conv => whnf))
                      refine ACall.frameH [1, 3] [] rfl (args' := [.p (some (0, 0))]) (Hc := [.c [.sl (some (1, 0)) 12 lw.length cw, .i .i64 most], .c (frs lw ++ Yw)]) rfl (by show [_, Blk.c (subs _ _)] = _; simp only [hzw]; rfl) (qall_spec lw most cw Yw kw2 (by omega)) ?_
                      rintro r H ⟨dd, hdd, rfl, rfl⟩
                      refine ⟨.inl rfl, [.c [.sl none 0 0 0, .i .i64 most], .c [.sl (some (3, 0)) 12 lw.length cw, .i .i64 most], .c [.sl (some (4, 0)) 12 p.length cc, .i .i64 most], .c (frs lw ++ Yw), .c (frs p ++ Yc), .c (frs p), .c (frs lw)], (by show [_, _, _, Blk.c (subs _ _), _, _, Blk.c (subs _ _)] = _; simp only [hzw, hzf]; rfl), ?_⟩
                      conv => whnf
                      repeat (first | (refine acond_t hbq ?_; conv => whnf) | (refine acond_t (decide_eq_true (show ((lw.length : Nat) : Int) ≤ most from hlnw)) ?_; conv => whnf))
                      refine ACall.frameH [] [5, 6] rfl (args' := [.rs (frs p) 0 12 p.length, .rs (frs lw) 0 12 lw.length]) (Hc := []) (by show [AV.rs (subs _ (frs p)) 0 12 p.length, AV.rs (subs _ (frs lw)) 0 12 lw.length] = _; simp only [subs_frs]) rfl (has_spec p lw (by omega) (by omega) hcnt) ?_
                      rintro r H ⟨rfl, rfl⟩
                      refine ⟨.inr ⟨rfl, rfl⟩, [.c [.sl none 0 0 0, .i .i64 most], .c [.sl (some (3, 0)) 12 lw.length cw, .i .i64 most], .c [.sl (some (4, 0)) 12 p.length cc, .i .i64 most], .c (frs lw ++ Yw), .c (frs p ++ Yc), .c (frs p), .c (frs lw)], rfl, ?_⟩
                      conv => whnf
                      repeat (first | (refine acond_t hbq ?_; conv => whnf) | (refine acond_t (decide_eq_true (show ((lw.length : Nat) : Int) ≤ most from hlnw)) ?_; conv => whnf))
                      refine ACall.frameH [] [] rfl (args' := []) (Hc := []) rfl rfl awake9_spec ?_
                      rintro r H ⟨rfl, rfl⟩
                      refine ⟨.inl rfl, _, rfl, ?_⟩
                      conv => whnf
                      repeat (first | (refine acond_t hbq ?_; conv => whnf) | (refine acond_t (decide_eq_true (show ((lw.length : Nat) : Int) ≤ most from hlnw)) ?_; conv => whnf))
                      exact GhR.sel [] rfl (GhR.of ⟨rfl, rfl⟩)
              ·
                have hzc : ∀ φ, subs φ (frs lc ++ Yc) = frs lc ++ Yc := (Pl.frs _).app kc2
                conv => whnf
                refine acond_f (decide_eq_false h3) ?_
                conv => whnf
                refine ACall.frameH [0] [] rfl (args' := [.p (some (0, 0))]) (Hc := [.c [.sl none 0 0 0, .i .i64 most]]) rfl rfl (qall_nil most) ?_
                rintro r H ⟨rfl, rfl⟩
                refine ⟨.inl rfl, [.c [.sl none 0 0 0, .i .i64 most], .c [.sl (some (3, 0)) 12 lw.length cw, .i .i64 most], .c [.sl (some (4, 0)) 12 lc.length cc, .i .i64 most], .c (frs lw ++ Yw), .c (frs lc ++ Yc)], rfl, ?_⟩
                conv => whnf
                refine ALoop.ind (ip := false) tok (fun m r H => H = [.c [.sl none 0 0 0, .i .i64 most], .c [.sl (some (3, 0)) 12 lw.length cw, .i .i64 most], .c [.sl (some (4, 0)) 12 lc.length cc, .i .i64 most], .c (frs lw ++ Yw), .c (frs lc ++ Yc)] ∧
                  r = [(19, .i .i64 0), (18, .sl none 0 0 0), (16, .p (some (2, 0))), (15, .sl none 0 0 0), (12, .p (some (1, 0))), (10, .p (some (0, 0))), (6, .b false), (0, .i .i64 most)]) 0 ?_ ?_
                · exact Gh.regs [19, 18, 16, 15, 12, 10, 6, 0] (Gh.of ⟨rfl, rfl⟩)
                · rintro m r H ⟨rfl, rfl⟩
                  conv => whnf
                  refine ALoop.ind (ip := false) tok (fun m r H => ∃ (t : Nat) (p : List Fr), t ≤ 20 ∧ m = 20 - t ∧ (p.length : Int) ≤ most ∧ (((t : Int) ≤ p.length) ∨ (p.length : Int) = most) ∧ (∀ F ∈ p, F.ok) ∧ (∀ F, lw.count F ≤ p.count F) ∧
                    ((∃ cc Yc, p.length ≤ cc ∧ Pl Yc ∧ Yc.length = (cc - p.length) * 12 ∧ H = [.c [.sl none 0 0 0, .i .i64 most], .c [.sl (some (3, 0)) 12 lw.length cw, .i .i64 most], .c [.sl (some (4, 0)) 12 p.length cc, .i .i64 most], .c (frs lw ++ Yw), .c (frs p ++ Yc)])) ∧
                    r = [(20, .i .i64 t), (16, .p (some (2, 0))), (15, .sl none 0 0 0), (12, .p (some (1, 0))), (10, .p (some (0, 0))), (6, .b false), (0, .i .i64 most)]) 20 ?_ ?_
                  · refine Gh.regs [20, 16, 15, 12, 10, 6, 0] (Gh.of ⟨0, lc, by omega, by omega, hlnc, .inl (by omega), hokc, (fun F => Nat.le_of_eq (by rw [hcw])), ⟨cc, Yc, kc1, kc2, kc3, rfl⟩, ?_⟩)
                    rfl
                  · clear hokc hlnc hlc hcw hzc kc1 kc2 kc3
                    rintro m r H ⟨t, p, ht, rfl, hpm, hpt, hokp, hcnt, hst, rfl⟩
                    have hokF : (frQ t false).ok := frQ_ok t false (by omega)
                    by_cases h5 : (t : Int) < 20
                    · have hmay := frQ_may2 t (by omega)
                      have hok3 : ∀ F ∈ putL p (frQ t false), F.ok := fun F hF => by
                        rcases put_sub hF with rfl | h
                        · exact hokF
                        · exact hokp F h
                      have hcnt2 : ∀ F, lw.count F ≤ (putL p (frQ t false)).count F := fun F => Nat.le_trans (hcnt F) (count_put_le p _ F)
                      have hpl2 : (putL p (frQ t false)).length = p.length + 1 := putL_length ..
                      obtain ⟨cc, Yc, kc1, kc2, kc3, rfl⟩ := hst
                      conv => whnf
                      refine acond_t (decide_eq_true h5) ?_
                      conv => whnf
                      have hzc0 : ∀ φ, subs φ (frs p ++ Yc) = frs p ++ Yc := (Pl.frs _).app kc2
                      refine ACall.frameH [2, 4] [] rfl (args' := [.p (some (0, 0)), (frQ t false).av]) (Hc := [.c [.sl (some (1, 0)) 12 p.length cc, .i .i64 most], .c (frs p ++ Yc)]) rfl (by show [_, Blk.c (subs _ _)] = _; simp only [hzc0]; rfl) (qput_spec p hokp (frQ t false) hokF most cc Yc kc1 kc2 kc3 (by omega)) ?_
                      clear hzc0 kc1 kc2 kc3
                      rintro r H ⟨rfl, ⟨he, ⟨cc, Yc, kc1, kc2, kc3, rfl⟩ | ⟨cc, Yc, kc1, kc2, kc3, rfl⟩⟩ | ⟨he, cc, Yc, kc1, kc2, kc3, rfl⟩⟩
                      · have hzc : ∀ φ, subs φ (frs (putL p (frQ t false)) ++ Yc) = frs (putL p (frQ t false)) ++ Yc := (Pl.frs _).app kc2
                        have hlt : (p.length : Int) < most := by
                          unfold putE at he
                          rw [if_pos hmay] at he
                          split at he
                          · cases he
                          · omega
                        refine ⟨.inl rfl, [.c [.sl none 0 0 0, .i .i64 most], .c [.sl (some (3, 0)) 12 lw.length cw, .i .i64 most], .c [.sl (some (4, 0)) 12 (putL p (frQ t false)).length cc, .i .i64 most], .c (frs lw ++ Yw), .c (frs (putL p (frQ t false)) ++ Yc)], (by show [_, _, _, _, Blk.c (subs _ _)] = _; simp only [hzc]; rfl), ?_⟩
                        conv => whnf
                        refine Gh.regs [20, 16, 15, 12, 10, 6, 0] (Gh.of ⟨20 - (t + 1), by omega, t + 1, (putL p (frQ t false)), by omega, rfl, by rw [hpl2]; omega, by rw [hpl2]; omega, hok3, hcnt2, ⟨cc, Yc, kc1, kc2, kc3, rfl⟩, ?_⟩)
                        rw [w64 (by omega) (by omega)]; rfl
                      · have hzc : ∀ φ, subs φ (frs (putL p (frQ t false)) ++ Yc) = frs (putL p (frQ t false)) ++ Yc := (Pl.frs _).app kc2
                        have hlt : (p.length : Int) < most := by
                          unfold putE at he
                          rw [if_pos hmay] at he
                          split at he
                          · cases he
                          · omega
                        refine ⟨.inl rfl, [.c [.sl none 0 0 0, .i .i64 most], .c [.sl (some (3, 0)) 12 lw.length cw, .i .i64 most], .c [.sl (some (5, 0)) 12 (putL p (frQ t false)).length cc, .i .i64 most], .c (frs lw ++ Yw), .dead, .c (frs (putL p (frQ t false)) ++ Yc)], (by show [_, _, _, _, _, Blk.c (subs _ _)] = _; simp only [hzc]; rfl), ?_⟩
                        conv => whnf
                        refine Gh.regs [20, 16, 15, 12, 10, 6, 0] (Gh.sel [0, 1, 2, 3, 5] rfl (Gh.of ⟨20 - (t + 1), by omega, t + 1, (putL p (frQ t false)), by omega, rfl, by rw [hpl2]; omega, by rw [hpl2]; omega, hok3, hcnt2, ⟨cc, Yc, kc1, kc2, kc3, (by show [_, _, _, Blk.c (subs _ _), Blk.c (subs _ _)] = _; simp only [hzw, hzc]; rfl)⟩, ?_⟩))
                        refine keep_eq (show keepR _ _ = [_, _, _, _, _, _, _] from rfl) ?_
                        simp only [subG, sub]
                        rw [w64 (by omega) (by omega)]; rfl
                      · have hzc : ∀ φ, subs φ (frs p ++ Yc) = frs p ++ Yc := (Pl.frs _).app kc2
                        have hlt : (p.length : Int) = most := by
                          unfold putE at he
                          rw [if_pos hmay] at he
                          split at he
                          · omega
                          · exact absurd rfl he
                        refine ⟨.inl rfl, [.c [.sl none 0 0 0, .i .i64 most], .c [.sl (some (3, 0)) 12 lw.length cw, .i .i64 most], .c [.sl (some (4, 0)) 12 p.length cc, .i .i64 most], .c (frs lw ++ Yw), .c (frs p ++ Yc)], (by show [_, _, _, _, Blk.c (subs _ _)] = _; simp only [hzc]; rfl), ?_⟩
                        conv => whnf
                        refine Gh.regs [20, 16, 15, 12, 10, 6, 0] (Gh.of ⟨20 - (t + 1), by omega, t + 1, p, by omega, rfl, hpm, .inr hlt, hokp, hcnt, ⟨cc, Yc, kc1, kc2, kc3, rfl⟩, ?_⟩)
                        rw [w64 (by omega) (by omega)]; rfl
                    · have hpl : (p.length : Int) = most := by omega
                      have hbq : ((p.length : Int) == most) = true := beq_iff_eq.2 hpl
                      obtain ⟨cc, Yc, kc1, kc2, kc3, rfl⟩ := hst
                      have hzc : ∀ φ, subs φ (frs p ++ Yc) = frs p ++ Yc := (Pl.frs _).app kc2
                      conv => whnf
                      refine acond_f (decide_eq_false h5) ?_
                      conv => whnf
                      refine ACall.frameH [0] [] rfl (args' := [.p (some (0, 0))]) (Hc := [.c [.sl none 0 0 0, .i .i64 most]]) rfl rfl (qall_nil most) ?_
                      rintro r H ⟨rfl, rfl⟩
                      refine ⟨.inl rfl, [.c [.sl none 0 0 0, .i .i64 most], .c [.sl (some (3, 0)) 12 lw.length cw, .i .i64 most], .c [.sl (some (4, 0)) 12 p.length cc, .i .i64 most], .c (frs lw ++ Yw), .c (frs p ++ Yc)], rfl, ?_⟩
                      conv => whnf
                      refine ACall.frameH [] [] rfl (args' := [.sl none 0 0 0, .sl none 0 0 0]) (Hc := []) rfl rfl (ACall.args (same_self [] (by simp)) (VLe.nilrs (VLe.nilrs VLe.nil))) ?_
                      rintro r H ⟨rfl, rfl⟩
                      refine ⟨.inl rfl, [.c [.sl none 0 0 0, .i .i64 most], .c [.sl (some (3, 0)) 12 lw.length cw, .i .i64 most], .c [.sl (some (4, 0)) 12 p.length cc, .i .i64 most], .c (frs lw ++ Yw), .c (frs p ++ Yc)], rfl, ?_⟩
                      conv => whnf
                      refine ACall.frameH [2, 4] [] rfl (args' := [.p (some (0, 0))]) (Hc := [.c [.sl (some (1, 0)) 12 p.length cc, .i .i64 most], .c (frs p ++ Yc)]) rfl (by show [_, Blk.c (subs _ _)] = _; simp only [hzc]; rfl) (qlen_spec (some (1, 0)) 12 p.length cc (.i .i64 most) [.c (frs p ++ Yc)]) ?_
                      rintro r H ⟨rfl, rfl⟩
                      refine ⟨.inl rfl, [.c [.sl none 0 0 0, .i .i64 most], .c [.sl (some (3, 0)) 12 lw.length cw, .i .i64 most], .c [.sl (some (4, 0)) 12 p.length cc, .i .i64 most], .c (frs lw ++ Yw), .c (frs p ++ Yc)], (by show [_, _, _, _, Blk.c (subs _ _)] = _; simp only [hzc]; rfl), ?_⟩
                      conv => whnf
                      repeat (refine acond_t hbq ?_; conv => whnf)
                      refine ACall.frameH [1, 3] [] rfl (args' := [.p (some (0, 0))]) (Hc := [.c [.sl (some (1, 0)) 12 lw.length cw, .i .i64 most], .c (frs lw ++ Yw)]) rfl (by show [_, Blk.c (subs _ _)] = _; simp only [hzw]; rfl) (qlen_spec (some (1, 0)) 12 lw.length cw (.i .i64 most) [.c (frs lw ++ Yw)]) ?_
                      rintro r H ⟨rfl, rfl⟩
                      refine ⟨.inl rfl, [.c [.sl none 0 0 0, .i .i64 most], .c [.sl (some (3, 0)) 12 lw.length cw, .i .i64 most], .c [.sl (some (4, 0)) 12 p.length cc, .i .i64 most], .c (frs lw ++ Yw), .c (frs p ++ Yc)], (by show [_, _, _, Blk.c (subs _ _), _] = _; simp only [hzw]; rfl), ?_⟩
                      conv => whnf
                      repeat (first | (refine acond_t hbq ?_; conv => whnf) | (refine acond_t (decide_eq_true (show ((lw.length : Nat) : Int) ≤ most from hlnw)) ?_; conv => whnf))
                      refine ACall.frameH [2, 4] [] rfl (args' := [.p (some (0, 0))]) (Hc := [.c [.sl (some (1, 0)) 12 p.length cc, .i .i64 most], .c (frs p ++ Yc)]) rfl (by show [_, Blk.c (subs _ _)] = _; simp only [hzc]; rfl) (qall_spec p most cc Yc kc2 (by omega)) ?_
                      rintro r H ⟨dc, hdc, rfl, rfl⟩
                      refine ⟨.inl rfl, [.c [.sl none 0 0 0, .i .i64 most], .c [.sl (some (3, 0)) 12 lw.length cw, .i .i64 most], .c [.sl (some (4, 0)) 12 p.length cc, .i .i64 most], .c (frs lw ++ Yw), .c (frs p ++ Yc), .c (frs p)], (by show [_, _, _, _, Blk.c (subs _ _), Blk.c (subs _ _)] = _; simp only [hzc, hzf]; rfl), ?_⟩
                      conv => whnf
                      repeat (first | (refine acond_t hbq ?_; conv => whnf) | (refine acond_t (decide_eq_true (show ((lw.length : Nat) : Int) ≤ most from hlnw)) ?_; conv => whnf))
                      refine ACall.frameH [1, 3] [] rfl (args' := [.p (some (0, 0))]) (Hc := [.c [.sl (some (1, 0)) 12 lw.length cw, .i .i64 most], .c (frs lw ++ Yw)]) rfl (by show [_, Blk.c (subs _ _)] = _; simp only [hzw]; rfl) (qall_spec lw most cw Yw kw2 (by omega)) ?_
                      rintro r H ⟨dd, hdd, rfl, rfl⟩
                      refine ⟨.inl rfl, [.c [.sl none 0 0 0, .i .i64 most], .c [.sl (some (3, 0)) 12 lw.length cw, .i .i64 most], .c [.sl (some (4, 0)) 12 p.length cc, .i .i64 most], .c (frs lw ++ Yw), .c (frs p ++ Yc), .c (frs p), .c (frs lw)], (by show [_, _, _, Blk.c (subs _ _), _, _, Blk.c (subs _ _)] = _; simp only [hzw, hzf]; rfl), ?_⟩
                      conv => whnf
                      repeat (first | (refine acond_t hbq ?_; conv => whnf) | (refine acond_t (decide_eq_true (show ((lw.length : Nat) : Int) ≤ most from hlnw)) ?_; conv => whnf))
                      refine ACall.frameH [] [5, 6] rfl (args' := [.rs (frs p) 0 12 p.length, .rs (frs lw) 0 12 lw.length]) (Hc := []) (by show [AV.rs (subs _ (frs p)) 0 12 p.length, AV.rs (subs _ (frs lw)) 0 12 lw.length] = _; simp only [subs_frs]) rfl (has_spec p lw (by omega) (by omega) hcnt) ?_
                      rintro r H ⟨rfl, rfl⟩
                      refine ⟨.inr ⟨rfl, rfl⟩, [.c [.sl none 0 0 0, .i .i64 most], .c [.sl (some (3, 0)) 12 lw.length cw, .i .i64 most], .c [.sl (some (4, 0)) 12 p.length cc, .i .i64 most], .c (frs lw ++ Yw), .c (frs p ++ Yc), .c (frs p), .c (frs lw)], rfl, ?_⟩
                      conv => whnf
                      repeat (first | (refine acond_t hbq ?_; conv => whnf) | (refine acond_t (decide_eq_true (show ((lw.length : Nat) : Int) ≤ most from hlnw)) ?_; conv => whnf))
                      refine ACall.frameH [] [] rfl (args' := []) (Hc := []) rfl rfl awake9_spec ?_
                      rintro r H ⟨rfl, rfl⟩
                      refine ⟨.inl rfl, _, rfl, ?_⟩
                      conv => whnf
                      repeat (first | (refine acond_t hbq ?_; conv => whnf) | (refine acond_t (decide_eq_true (show ((lw.length : Nat) : Int) ≤ most from hlnw)) ?_; conv => whnf))
                      exact GhR.sel [] rfl (GhR.of ⟨rfl, rfl⟩)
        ·
          have hzq : ∀ φ, subs φ (frs lq ++ Yq) = frs lq ++ Yq := (Pl.frs _).app kq2
          have hzw : ∀ φ, subs φ (frs lw ++ Yw) = frs lw ++ Yw := (Pl.frs _).app kw2
          conv => whnf
          refine acond_f (decide_eq_false h1) ?_
          conv => whnf
          refine ACall.frameH [0, 2] [] rfl (args' := [.p (some (0, 0))]) (Hc := [.c [.sl (some (1, 0)) 12 lq.length cq, .i .i64 most], .c (frs lq ++ Yq)]) rfl (by show [_, Blk.c (subs _ _)] = _; simp only [hzq]; rfl) (qall_spec lq most cq Yq kq2 (by omega)) ?_
          rintro r H ⟨dw, hdw, rfl, rfl⟩
          refine ⟨.inl rfl, [.c [.sl (some (2, 0)) 12 lq.length cq, .i .i64 most], .c [.sl (some (3, 0)) 12 lw.length cw, .i .i64 most], .c (frs lq ++ Yq), .c (frs lw ++ Yw), .c (frs lq)], (by show [_, _, Blk.c (subs _ _), _, Blk.c (subs _ _)] = _; simp only [hzq, hzf]; rfl), ?_⟩
          conv => whnf
          refine ACall.frameH [0, 2] [] rfl (args' := [.p (some (0, 0))]) (Hc := [.c [.sl (some (1, 0)) 12 lq.length cq, .i .i64 most], .c (frs lq ++ Yq)]) rfl (by show [_, Blk.c (subs _ _)] = _; simp only [hzq]; rfl) (qclone_spec lq most cq Yq kq1 kq2 (by omega)) ?_
          rintro r H ⟨cc, Yc, kc1, kc2, kc3, rfl, rfl⟩
          have hzc : ∀ φ, subs φ (frs lq ++ Yc) = frs lq ++ Yc := (Pl.frs _).app kc2
          refine ⟨.inl rfl, [.c [.sl (some (2, 0)) 12 lq.length cq, .i .i64 most], .c [.sl (some (3, 0)) 12 lw.length cw, .i .i64 most], .c (frs lq ++ Yq), .c (frs lw ++ Yw), .c (frs lq), .c [.sl (some (6, 0)) 12 lq.length cc, .i .i64 most], .c (frs lq ++ Yc)], (by show [_, _, Blk.c (subs _ _), _, _, _, Blk.c (subs _ _)] = _; simp only [hzq, hzc]; rfl), ?_⟩
          conv => whnf
          refine ALoop.ind (ip := false) tok (fun m r H => ∃ (j : Nat) (lc : List Fr), pl.toNat ≤ j ∧ j ≤ A.length ∧ m = A.length - j ∧ lc = actsN A most j ∧
            ((∃ cc Yc, lc.length ≤ cc ∧ Pl Yc ∧ Yc.length = (cc - lc.length) * 12 ∧ H = [.c [.sl (some (3, 0)) 12 lq.length cq, .i .i64 most], .c [.sl (some (4, 0)) 12 lw.length cw, .i .i64 most], .c [.sl (some (6, 0)) 12 lc.length cc, .i .i64 most], .c (frs lq ++ Yq), .c (frs lw ++ Yw), .c (frs lq), .c (frs lc ++ Yc)])) ∧
            r = [(17, .i .i64 j), (16, .p (some (2, 0))), (15, .sl (some (5, 0)) 12 lq.length dw), (12, .p (some (1, 0))), (10, .p (some (0, 0))), (6, .b false), (1, .rs (acs A) 0 13 A.length), (0, .i .i64 most)]) (A.length - pl.toNat) ?_ ?_
          · refine Gh.regs [17, 16, 15, 12, 10, 6, 1, 0] (Gh.sel [0, 1, 5, 2, 3, 4, 6] rfl (Gh.of ⟨pl.toNat, lq, by omega, hnl, by omega, hlq, ⟨cc, Yc, kc1, kc2, kc3, (by show [_, _, _, Blk.c (subs _ _), Blk.c (subs _ _), Blk.c (subs _ _), Blk.c (subs _ _)] = _; simp only [hzq, hzw, hzc, hzf]; rfl)⟩, ?_⟩))
            refine keep_eq (show keepR _ _ = [_, _, _, _, _, _, _, _] from rfl) ?_
            simp only [subG, sub, subs_acs]
            rw [hpn]; rfl
          · rintro m r H ⟨j, lc, hj1, hj2, rfl, hlc, hst, rfl⟩
            have hokc : ∀ F ∈ lc, F.ok := hlc ▸ actsN_ok hA most hj2
            have hlnc : (lc.length : Int) ≤ most := hlc ▸ actsN_len (by omega) hj2
            by_cases h3 : (j : Int) < A.length
            · have hjl : j < A.length := by omega
              have ha := hA _ (List.getElem_mem hjl)
              have hlc2 : actL lc most A[j] = actsN A most (j + 1) := by rw [actsN_next hjl, ← hlc]
              obtain ⟨cc, Yc, kc1, kc2, kc3, rfl⟩ := hst
              conv => whnf
              refine acond_t (decide_eq_true h3) ?_
              conv => whnf
              refine ⟨⟨by omega, h3⟩, ?_⟩
              conv => whnf
              refine aget_act (k := j) (by omega) hjl ?_
              conv => whnf
              have hzc0 : ∀ φ, subs φ (frs lc ++ Yc) = frs lc ++ Yc := (Pl.frs _).app kc2
              refine ACall.frameH [2, 6] [] rfl (args' := [.p (some (0, 0)), actAV A[j]]) (Hc := [.c [.sl (some (1, 0)) 12 lc.length cc, .i .i64 most], .c (frs lc ++ Yc)]) rfl (by show [_, Blk.c (subs _ _)] = _; simp only [hzc0]; rfl) (does_spec lc hokc A[j] ha most cc Yc kc1 kc2 kc3 (by omega)) ?_
              clear hzc0 kc1 kc2 kc3
              rintro r H ⟨rfl, ⟨cc, Yc, kc1, kc2, kc3, rfl⟩ | ⟨cc, Yc, kc1, kc2, kc3, rfl⟩⟩
              · have hzc : ∀ φ, subs φ (frs (actL lc most A[j]) ++ Yc) = frs (actL lc most A[j]) ++ Yc := (Pl.frs _).app kc2
                refine ⟨.inl rfl, [.c [.sl (some (3, 0)) 12 lq.length cq, .i .i64 most], .c [.sl (some (4, 0)) 12 lw.length cw, .i .i64 most], .c [.sl (some (6, 0)) 12 (actL lc most A[j]).length cc, .i .i64 most], .c (frs lq ++ Yq), .c (frs lw ++ Yw), .c (frs lq), .c (frs (actL lc most A[j]) ++ Yc)], (by show [_, _, _, _, _, _, Blk.c (subs _ _)] = _; simp only [hzc]; rfl), ?_⟩
                conv => whnf
                refine Gh.regs [17, 16, 15, 12, 10, 6, 1, 0] (Gh.of ⟨A.length - (j + 1), by omega, j + 1, (actL lc most A[j]), by omega, by omega, rfl, hlc2, ⟨cc, Yc, kc1, kc2, kc3, rfl⟩, ?_⟩)
                rw [w64 (by omega) (by omega)]; rfl
              · have hzc : ∀ φ, subs φ (frs (actL lc most A[j]) ++ Yc) = frs (actL lc most A[j]) ++ Yc := (Pl.frs _).app kc2
                refine ⟨.inl rfl, [.c [.sl (some (3, 0)) 12 lq.length cq, .i .i64 most], .c [.sl (some (4, 0)) 12 lw.length cw, .i .i64 most], .c [.sl (some (7, 0)) 12 (actL lc most A[j]).length cc, .i .i64 most], .c (frs lq ++ Yq), .c (frs lw ++ Yw), .c (frs lq), .dead, .c (frs (actL lc most A[j]) ++ Yc)], (by show [_, _, _, _, _, _, _, Blk.c (subs _ _)] = _; simp only [hzc]; rfl), ?_⟩
                conv => whnf
                refine Gh.regs [17, 16, 15, 12, 10, 6, 1, 0] (Gh.sel [0, 1, 2, 3, 4, 5, 7] rfl (Gh.of ⟨A.length - (j + 1), by omega, j + 1, (actL lc most A[j]), by omega, by omega, rfl, hlc2, ⟨cc, Yc, kc1, kc2, kc3, (by show [_, _, _, Blk.c (subs _ _), Blk.c (subs _ _), Blk.c (subs _ _), Blk.c (subs _ _)] = _; simp only [hzq, hzw, hzc, hzf]; rfl)⟩, ?_⟩))
                refine keep_eq (show keepR _ _ = [_, _, _, _, _, _, _, _] from rfl) ?_
                simp only [subG, sub, subs_acs]
                rw [w64 (by omega) (by omega)]; rfl
            · have hjl : j = A.length := by omega
              have hcw : lc = lw := by rw [hlc, hjl, ← hlw]
              obtain ⟨cc, Yc, kc1, kc2, kc3, rfl⟩ := hst
              have hzc : ∀ φ, subs φ (frs lc ++ Yc) = frs lc ++ Yc := (Pl.frs _).app kc2
              conv => whnf
              refine acond_f (decide_eq_false h3) ?_
              conv => whnf
              refine ACall.frameH [0, 3] [] rfl (args' := [.p (some (0, 0))]) (Hc := [.c [.sl (some (1, 0)) 12 lq.length cq, .i .i64 most], .c (frs lq ++ Yq)]) rfl (by show [_, Blk.c (subs _ _)] = _; simp only [hzq]; rfl) (qall_spec lq most cq Yq kq2 (by omega)) ?_
              rintro r H ⟨dt, hdt, rfl, rfl⟩
              refine ⟨.inl rfl, [.c [.sl (some (3, 0)) 12 lq.length cq, .i .i64 most], .c [.sl (some (4, 0)) 12 lw.length cw, .i .i64 most], .c [.sl (some (6, 0)) 12 lc.length cc, .i .i64 most], .c (frs lq ++ Yq), .c (frs lw ++ Yw), .c (frs lq), .c (frs lc ++ Yc), .c (frs lq)], (by show [_, _, _, Blk.c (subs _ _), _, _, _, Blk.c (subs _ _)] = _; simp only [hzq, hzf]; rfl), ?_⟩
              conv => whnf
              refine ALoop.ind (ip := false) tok (fun m r H => ∃ (t : Nat) (tl : List Fr), t ≤ lq.length ∧ m = lq.length - t ∧ tl.length = lq.length ∧ H = [.c [.sl (some (3, 0)) 12 lq.length cq, .i .i64 most], .c [.sl (some (4, 0)) 12 lw.length cw, .i .i64 most], .c [.sl (some (6, 0)) 12 lc.length cc, .i .i64 most], .c (frs lq ++ Yq), .c (frs lw ++ Yw), .c (frs lq), .c (frs lc ++ Yc), .c (frs tl)] ∧
                r = [(19, .i .i64 t), (18, .sl (some (7, 0)) 12 lq.length dt), (16, .p (some (2, 0))), (15, .sl (some (5, 0)) 12 lq.length dw), (12, .p (some (1, 0))), (10, .p (some (0, 0))), (6, .b false), (0, .i .i64 most)]) lq.length ?_ ?_
              · exact Gh.regs [19, 18, 16, 15, 12, 10, 6, 0] (Gh.of ⟨0, lq, by omega, by omega, rfl, rfl, rfl⟩)
              · rintro m r H ⟨t, tl, ht, rfl, htl, rfl, rfl⟩
                have hfl : (frs tl).length = tl.length * 12 := frs_length tl
                by_cases h4 : (t : Int) < lq.length
                · have htt : t < tl.length := by omega
                  conv => whnf
                  refine acond_t (decide_eq_true h4) ?_
                  conv => whnf
                  refine ⟨⟨by omega, h4⟩, ?_⟩
                  conv => whnf
                  refine ⟨by show 0 + t * 12 + 0 + 1 ≤ (frs tl).length; omega, ?_⟩
                  conv => whnf
                  refine Gh.regs [19, 18, 16, 15, 12, 10, 6, 0] (Gh.of ⟨lq.length - (t + 1), by omega, t + 1, tl.set t { tl[t] with id := -1 }, by omega, rfl, by rw [List.length_set]; exact htl, ?_, ?_⟩)
                  · rw [← set_id (-1) tl t htt]; rfl
                  · rw [w64 (by omega) (by omega)]; rfl
                · conv => whnf
                  refine acond_f (decide_eq_false h4) ?_
                  conv => whnf
                  refine ALoop.ind (ip := false) tok (fun m r H => ∃ (t : Nat) (p : List Fr), t ≤ 20 ∧ m = 20 - t ∧ (p.length : Int) ≤ most ∧ (((t : Int) ≤ p.length) ∨ (p.length : Int) = most) ∧ (∀ F ∈ p, F.ok) ∧ (∀ F, lw.count F ≤ p.count F) ∧
                    ((∃ cc Yc, p.length ≤ cc ∧ Pl Yc ∧ Yc.length = (cc - p.length) * 12 ∧ H = [.c [.sl (some (3, 0)) 12 lq.length cq, .i .i64 most], .c [.sl (some (4, 0)) 12 lw.length cw, .i .i64 most], .c [.sl (some (6, 0)) 12 p.length cc, .i .i64 most], .c (frs lq ++ Yq), .c (frs lw ++ Yw), .c (frs lq), .c (frs p ++ Yc)])) ∧
                    r = [(20, .i .i64 t), (16, .p (some (2, 0))), (15, .sl (some (5, 0)) 12 lq.length dw), (12, .p (some (1, 0))), (10, .p (some (0, 0))), (6, .b false), (0, .i .i64 most)]) 20 ?_ ?_
                  · refine Gh.regs [20, 16, 15, 12, 10, 6, 0] (Gh.sel [0, 1, 2, 3, 4, 5, 6] rfl (Gh.of ⟨0, lc, by omega, by omega, hlnc, .inl (by omega), hokc, (fun F => Nat.le_of_eq (by rw [hcw])), ⟨cc, Yc, kc1, kc2, kc3, (by show [_, _, _, Blk.c (subs _ _), Blk.c (subs _ _), Blk.c (subs _ _), Blk.c (subs _ _)] = _; simp only [hzq, hzw, hzc, hzf]; rfl)⟩, ?_⟩))
                    refine keep_eq (show keepR _ _ = [_, _, _, _, _, _, _] from rfl) ?_
                    simp only [subG, sub]
                    rfl
                  · clear hokc hlnc hlc hcw hzc kc1 kc2 kc3
                    rintro m r H ⟨t, p, ht, rfl, hpm, hpt, hokp, hcnt, hst, rfl⟩
                    have hokF : (frQ t false).ok := frQ_ok t false (by omega)
                    by_cases h5 : (t : Int) < 20
                    · have hmay := frQ_may2 t (by omega)
                      have hok3 : ∀ F ∈ putL p (frQ t false), F.ok := fun F hF => by
                        rcases put_sub hF with rfl | h
                        · exact hokF
                        · exact hokp F h
                      have hcnt2 : ∀ F, lw.count F ≤ (putL p (frQ t false)).count F := fun F => Nat.le_trans (hcnt F) (count_put_le p _ F)
                      have hpl2 : (putL p (frQ t false)).length = p.length + 1 := putL_length ..
                      obtain ⟨cc, Yc, kc1, kc2, kc3, rfl⟩ := hst
                      conv => whnf
                      refine acond_t (decide_eq_true h5) ?_
                      conv => whnf
                      have hzc0 : ∀ φ, subs φ (frs p ++ Yc) = frs p ++ Yc := (Pl.frs _).app kc2
                      refine ACall.frameH [2, 6] [] rfl (args' := [.p (some (0, 0)), (frQ t false).av]) (Hc := [.c [.sl (some (1, 0)) 12 p.length cc, .i .i64 most], .c (frs p ++ Yc)]) rfl (by show [_, Blk.c (subs _ _)] = _; simp only [hzc0]; rfl) (qput_spec p hokp (frQ t false) hokF most cc Yc kc1 kc2 kc3 (by omega)) ?_
                      clear hzc0 kc1 kc2 kc3
                      rintro r H ⟨rfl, ⟨he, ⟨cc, Yc, kc1, kc2, kc3, rfl⟩ | ⟨cc, Yc, kc1, kc2, kc3, rfl⟩⟩ | ⟨he, cc, Yc, kc1, kc2, kc3, rfl⟩⟩
                      · have hzc : ∀ φ, subs φ (frs (putL p (frQ t false)) ++ Yc) = frs (putL p (frQ t false)) ++ Yc := (Pl.frs _).app kc2
                        have hlt : (p.length : Int) < most := by
                          unfold putE at he
                          rw [if_pos hmay] at he
                          split at he
                          · cases he
                          · omega
                        refine ⟨.inl rfl, [.c [.sl (some (3, 0)) 12 lq.length cq, .i .i64 most], .c [.sl (some (4, 0)) 12 lw.length cw, .i .i64 most], .c [.sl (some (6, 0)) 12 (putL p (frQ t false)).length cc, .i .i64 most], .c (frs lq ++ Yq), .c (frs lw ++ Yw), .c (frs lq), .c (frs (putL p (frQ t false)) ++ Yc)], (by show [_, _, _, _, _, _, Blk.c (subs _ _)] = _; simp only [hzc]; rfl), ?_⟩
                        conv => whnf
                        refine Gh.regs [20, 16, 15, 12, 10, 6, 0] (Gh.of ⟨20 - (t + 1), by omega, t + 1, (putL p (frQ t false)), by omega, rfl, by rw [hpl2]; omega, by rw [hpl2]; omega, hok3, hcnt2, ⟨cc, Yc, kc1, kc2, kc3, rfl⟩, ?_⟩)
                        rw [w64 (by omega) (by omega)]; rfl
                      · have hzc : ∀ φ, subs φ (frs (putL p (frQ t false)) ++ Yc) = frs (putL p (frQ t false)) ++ Yc := (Pl.frs _).app kc2
                        have hlt : (p.length : Int) < most := by
                          unfold putE at he
                          rw [if_pos hmay] at he
                          split at he
                          · cases he
                          · omega
                        refine ⟨.inl rfl, [.c [.sl (some (3, 0)) 12 lq.length cq, .i .i64 most], .c [.sl (some (4, 0)) 12 lw.length cw, .i .i64 most], .c [.sl (some (7, 0)) 12 (putL p (frQ t false)).length cc, .i .i64 most], .c (frs lq ++ Yq), .c (frs lw ++ Yw), .c (frs lq), .dead, .c (frs (putL p (frQ t false)) ++ Yc)], (by show [_, _, _, _, _, _, _, Blk.c (subs _ _)] = _; simp only [hzc]; rfl), ?_⟩
                        conv => whnf
                        refine Gh.regs [20, 16, 15, 12, 10, 6, 0] (Gh.sel [0, 1, 2, 3, 4, 5, 7] rfl (Gh.of ⟨20 - (t + 1), by omega, t + 1, (putL p (frQ t false)), by omega, rfl, by rw [hpl2]; omega, by rw [hpl2]; omega, hok3, hcnt2, ⟨cc, Yc, kc1, kc2, kc3, (by show [_, _, _, Blk.c (subs _ _), Blk.c (subs _ _), Blk.c (subs _ _), Blk.c (subs _ _)] = _; simp only [hzq, hzw, hzc, hzf]; rfl)⟩, ?_⟩))
                        refine keep_eq (show keepR _ _ = [_, _, _, _, _, _, _] from rfl) ?_
                        simp only [subG, sub]
                        rw [w64 (by omega) (by omega)]; rfl
                      · have hzc : ∀ φ, subs φ (frs p ++ Yc) = frs p ++ Yc := (Pl.frs _).app kc2
                        have hlt : (p.length : Int) = most := by
                          unfold putE at he
                          rw [if_pos hmay] at he
                          split at he
                          · omega
                          · exact absurd rfl he
                        refine ⟨.inl rfl, [.c [.sl (some (3, 0)) 12 lq.length cq, .i .i64 most], .c [.sl (some (4, 0)) 12 lw.length cw, .i .i64 most], .c [.sl (some (6, 0)) 12 p.length cc, .i .i64 most], .c (frs lq ++ Yq), .c (frs lw ++ Yw), .c (frs lq), .c (frs p ++ Yc)], (by show [_, _, _, _, _, _, Blk.c (subs _ _)] = _; simp only [hzc]; rfl), ?_⟩
                        conv => whnf
                        refine Gh.regs [20, 16, 15, 12, 10, 6, 0] (Gh.of ⟨20 - (t + 1), by omega, t + 1, p, by omega, rfl, hpm, .inr hlt, hokp, hcnt, ⟨cc, Yc, kc1, kc2, kc3, rfl⟩, ?_⟩)
                        rw [w64 (by omega) (by omega)]; rfl
                    · have hpl : (p.length : Int) = most := by omega
                      have hbq : ((p.length : Int) == most) = true := beq_iff_eq.2 hpl
                      obtain ⟨cc, Yc, kc1, kc2, kc3, rfl⟩ := hst
                      have hzc : ∀ φ, subs φ (frs p ++ Yc) = frs p ++ Yc := (Pl.frs _).app kc2
                      conv => whnf
                      refine acond_f (decide_eq_false h5) ?_
                      conv => whnf
                      refine ACall.frameH [0, 3] [] rfl (args' := [.p (some (0, 0))]) (Hc := [.c [.sl (some (1, 0)) 12 lq.length cq, .i .i64 most], .c (frs lq ++ Yq)]) rfl (by show [_, Blk.c (subs _ _)] = _; simp only [hzq]; rfl) (qall_spec lq most cq Yq kq2 (by omega)) ?_
                      rintro r H ⟨da, hda, rfl, rfl⟩
                      refine ⟨.inl rfl, [.c [.sl (some (3, 0)) 12 lq.length cq, .i .i64 most], .c [.sl (some (4, 0)) 12 lw.length cw, .i .i64 most], .c [.sl (some (6, 0)) 12 p.length cc, .i .i64 most], .c (frs lq ++ Yq), .c (frs lw ++ Yw), .c (frs lq), .c (frs p ++ Yc), .c (frs lq)], (by show [_, _, _, Blk.c (subs _ _), _, _, _, Blk.c (subs _ _)] = _; simp only [hzq, hzf]; rfl), ?_⟩
                      conv => whnf
                      refine ACall.frameH [] [7, 5] rfl (args' := [.rs (frs lq) 0 12 lq.length, .rs (frs lq) 0 12 lq.length]) (Hc := []) (by show [AV.rs (subs _ (frs lq)) 0 12 lq.length, AV.rs (subs _ (frs lq)) 0 12 lq.length] = _; simp only [subs_frs]) rfl (same_self lq (by omega)) ?_
                      rintro r H ⟨rfl, rfl⟩
                      refine ⟨.inr ⟨rfl, rfl⟩, [.c [.sl (some (3, 0)) 12 lq.length cq, .i .i64 most], .c [.sl (some (4, 0)) 12 lw.length cw, .i .i64 most], .c [.sl (some (6, 0)) 12 p.length cc, .i .i64 most], .c (frs lq ++ Yq), .c (frs lw ++ Yw), .c (frs lq), .c (frs p ++ Yc), .c (frs lq)], rfl, ?_⟩
                      conv => whnf
                      refine ACall.frameH [2, 6] [] rfl (args' := [.p (some (0, 0))]) (Hc := [.c [.sl (some (1, 0)) 12 p.length cc, .i .i64 most], .c (frs p ++ Yc)]) rfl (by show [_, Blk.c (subs _ _)] = _; simp only [hzc]; rfl) (qlen_spec (some (1, 0)) 12 p.length cc (.i .i64 most) [.c (frs p ++ Yc)]) ?_
                      rintro r H ⟨rfl, rfl⟩
                      refine ⟨.inl rfl, [.c [.sl (some (3, 0)) 12 lq.length cq, .i .i64 most], .c [.sl (some (4, 0)) 12 lw.length cw, .i .i64 most], .c [.sl (some (6, 0)) 12 p.length cc, .i .i64 most], .c (frs lq ++ Yq), .c (frs lw ++ Yw), .c (frs lq), .c (frs p ++ Yc), .c (frs lq)], (by show [_, _, _, _, _, _, Blk.c (subs _ _), _] = _; simp only [hzc]; rfl), ?_⟩
                      conv => whnf
                      repeat (refine acond_t hbq ?_; conv => whnf)
                      refine ACall.frameH [1, 4] [] rfl (args' := [.p (some (0, 0))]) (Hc := [.c [.sl (some (1, 0)) 12 lw.length cw, .i .i64 most], .c (frs lw ++ Yw)]) rfl (by show [_, Blk.c (subs _ _)] = _; simp only [hzw]; rfl) (qlen_spec (some (1, 0)) 12 lw.length cw (.i .i64 most) [.c (frs lw ++ Yw)]) ?_
                      rintro r H ⟨rfl, rfl⟩
                      refine ⟨.inl rfl, [.c [.sl (some (3, 0)) 12 lq.length cq, .i .i64 most], .c [.sl (some (4, 0)) 12 lw.length cw, .i .i64 most], .c [.sl (some (6, 0)) 12 p.length cc, .i .i64 most], .c (frs lq ++ Yq), .c (frs lw ++ Yw), .c (frs lq), .c (frs p ++ Yc), .c (frs lq)], (by show [_, _, _, _, Blk.c (subs _ _), _, _, _] = _; simp only [hzw]; rfl), ?_⟩
                      conv => whnf
                      repeat (first | (refine acond_t hbq ?_; conv => whnf) | (refine acond_t (decide_eq_true (show ((lw.length : Nat) : Int) ≤ most from hlnw)) ?_; conv => whnf))
                      refine ACall.frameH [2, 6] [] rfl (args' := [.p (some (0, 0))]) (Hc := [.c [.sl (some (1, 0)) 12 p.length cc, .i .i64 most], .c (frs p ++ Yc)]) rfl (by show [_, Blk.c (subs _ _)] = _; simp only [hzc]; rfl) (qall_spec p most cc Yc kc2 (by omega)) ?_
                      rintro r H ⟨dc, hdc, rfl, rfl⟩
                      refine ⟨.inl rfl, [.c [.sl (some (3, 0)) 12 lq.length cq, .i .i64 most], .c [.sl (some (4, 0)) 12 lw.length cw, .i .i64 most], .c [.sl (some (6, 0)) 12 p.length cc, .i .i64 most], .c (frs lq ++ Yq), .c (frs lw ++ Yw), .c (frs lq), .c (frs p ++ Yc), .c (frs lq), .c (frs p)], (by show [_, _, _, _, _, _, Blk.c (subs _ _), _, Blk.c (subs _ _)] = _; simp only [hzc, hzf]; rfl), ?_⟩
                      conv => whnf
                      repeat (first | (refine acond_t hbq ?_; conv => whnf) | (refine acond_t (decide_eq_true (show ((lw.length : Nat) : Int) ≤ most from hlnw)) ?_; conv => whnf))
                      refine ACall.frameH [1, 4] [] rfl (args' := [.p (some (0, 0))]) (Hc := [.c [.sl (some (1, 0)) 12 lw.length cw, .i .i64 most], .c (frs lw ++ Yw)]) rfl (by show [_, Blk.c (subs _ _)] = _; simp only [hzw]; rfl) (qall_spec lw most cw Yw kw2 (by omega)) ?_
                      rintro r H ⟨dd, hdd, rfl, rfl⟩
                      refine ⟨.inl rfl, [.c [.sl (some (3, 0)) 12 lq.length cq, .i .i64 most], .c [.sl (some (4, 0)) 12 lw.length cw, .i .i64 most], .c [.sl (some (6, 0)) 12 p.length cc, .i .i64 most], .c (frs lq ++ Yq), .c (frs lw ++ Yw), .c (frs lq), .c (frs p ++ Yc), .c (frs lq), .c (frs p), .c (frs lw)], (by show [_, _, _, _, Blk.c (subs _ _), _, _, _, _, Blk.c (subs _ _)] = _; simp only [hzw, hzf]; rfl), ?_⟩
                      conv => whnf
                      repeat (first | (refine acond_t hbq ?_; conv => whnf) | (refine acond_t (decide_eq_true (show ((lw.length : Nat) : Int) ≤ most from hlnw)) ?_; conv => whnf))
                      refine ACall.frameH [] [8, 9] rfl (args' := [.rs (frs p) 0 12 p.length, .rs (frs lw) 0 12 lw.length]) (Hc := []) (by show [AV.rs (subs _ (frs p)) 0 12 p.length, AV.rs (subs _ (frs lw)) 0 12 lw.length] = _; simp only [subs_frs]) rfl (has_spec p lw (by omega) (by omega) hcnt) ?_
                      rintro r H ⟨rfl, rfl⟩
                      refine ⟨.inr ⟨rfl, rfl⟩, [.c [.sl (some (3, 0)) 12 lq.length cq, .i .i64 most], .c [.sl (some (4, 0)) 12 lw.length cw, .i .i64 most], .c [.sl (some (6, 0)) 12 p.length cc, .i .i64 most], .c (frs lq ++ Yq), .c (frs lw ++ Yw), .c (frs lq), .c (frs p ++ Yc), .c (frs lq), .c (frs p), .c (frs lw)], rfl, ?_⟩
                      conv => whnf
                      repeat (first | (refine acond_t hbq ?_; conv => whnf) | (refine acond_t (decide_eq_true (show ((lw.length : Nat) : Int) ≤ most from hlnw)) ?_; conv => whnf))
                      refine ACall.frameH [] [] rfl (args' := []) (Hc := []) rfl rfl awake9_spec ?_
                      rintro r H ⟨rfl, rfl⟩
                      refine ⟨.inl rfl, _, rfl, ?_⟩
                      conv => whnf
                      repeat (first | (refine acond_t hbq ?_; conv => whnf) | (refine acond_t (decide_eq_true (show ((lw.length : Nat) : Int) ≤ most from hlnw)) ?_; conv => whnf))
                      exact GhR.sel [] rfl (GhR.of ⟨rfl, rfl⟩)
end Go.AK
