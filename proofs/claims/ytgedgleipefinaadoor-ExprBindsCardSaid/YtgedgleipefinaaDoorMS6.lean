/- Texts SEEqual, SEBack, SETopA: an evaluator of the model's code, proved sound, and what the program's functions do, for all inputs. -/
import Derived.Test.YtgedgleipefinaaDoorMS5
set_option linter.unusedVariables false
set_option linter.unusedSimpArgs false
set_option linter.unusedSectionVars false
namespace Go.AK
open Go Go.RowKit Go.Proofs
set_option linter.unusedVariables false
set_option maxRecDepth 100000
theorem equal_spec (x : Ex) : ∀ y : Ex, ACall Tryd.prog 21 [x.av, y.av] [] fun r H => r = .ret (.b (x.same y)) ∧ H = [] := by
  induction x with
  | nil =>
    intro y
    cases y with
    | nil =>
      refine ACall.enter tok false Tryd.func21 rfl rfl rfl (AW_sound (ip := false) tok _ _ _ _ ?_)
      conv => whnf
      exact ⟨rfl, rfl⟩
    | nd k w o n l r =>
      refine ACall.enter tok false Tryd.func21 rfl rfl rfl (AW_sound (ip := false) tok _ _ _ _ ?_)
      conv => whnf
      exact ⟨rfl, rfl⟩
  | nd k w o n l r ihl ihr =>
    intro y
    cases y with
    | nil =>
      refine ACall.enter tok false Tryd.func21 rfl rfl rfl (AW_sound (ip := false) tok _ _ _ _ ?_)
      conv => whnf
      exact ⟨rfl, rfl⟩
    | nd k' w' o' n' l' r' =>
      refine ACall.enter tok false Tryd.func21 rfl rfl rfl (AW_sound (ip := false) tok _ _ _ _ ?_)
      conv => whnf
      refine ADraw.ph tok mixed false [([0, 1, 2, 3, 4, 5, 6, 7, 8, 9, 10, 11, 12, 13, 14, 15, 16, 17, 18, 19, 20, 21, 22, 23, 24, 25, 26, 27, 28, 29, 30, 31, 32, 33, 34, 35, 36, 37, 38, 39, 40, 41, 42, 43, 44, 45, 46, 47, 48, 49, 50], 51), ([52, 53, 54, 55, 56, 57, 58, 59, 60, 61], 62)] [63, 64] (by kernel_rfl) (fun _ _ _ _ h => h) ?_
      conv => whnf
      generalize hk : (k == k') = bhk
      cases bhk with
      | false =>
        conv => whnf
        exact ⟨congrArg (fun b => ARes.ret (AV.b b)) (by rw [Ex.same, hk]; rfl), rfl⟩
      | true =>
        conv => whnf
        generalize hw : ((sb w).data.toList == (sb w').data.toList) = bhw
        cases bhw with
        | false =>
          conv => whnf
          exact ⟨congrArg (fun b => ARes.ret (AV.b b)) (by rw [Ex.same, hk, show (w == w') = false from hw]; rfl), rfl⟩
        | true =>
          conv => whnf
          generalize ho : ((sb o).data.toList == (sb o').data.toList) = bho
          cases bho with
          | false =>
            conv => whnf
            exact ⟨congrArg (fun b => ARes.ret (AV.b b)) (by rw [Ex.same, hk, show (w == w') = true from hw, show (o == o') = false from ho]; rfl), rfl⟩
          | true =>
            conv => whnf
            generalize hn : (n == n') = bhn
            cases bhn with
            | false =>
              conv => whnf
              exact ⟨congrArg (fun b => ARes.ret (AV.b b)) (by rw [Ex.same, hk, show (w == w') = true from hw, show (o == o') = true from ho, hn]; rfl), rfl⟩
            | true =>
              conv => whnf
              refine ACall.mono (ihl l') ?_; rintro r0 H ⟨rfl, rfl⟩
              conv => whnf
              generalize hl : (l.same l') = bhl
              cases bhl with
              | false =>
                conv => whnf
                exact ⟨congrArg (fun b => ARes.ret (AV.b b)) (by rw [Ex.same, hk, show (w == w') = true from hw, show (o == o') = true from ho, hn, hl]; rfl), rfl⟩
              | true =>
                conv => whnf
                refine ACall.mono (ihr r') ?_; rintro r0 H ⟨rfl, rfl⟩
                conv => whnf
                exact ⟨congrArg (fun b => ARes.ret (AV.b b)) (by rw [Ex.same, hk, show (w == w') = true from hw, show (o == o') = true from ho, hn, hl]; rfl), rfl⟩
theorem sameR_spec (x : Ex) : ∀ y : Ex, ACall Tryd.prog 12 [x.av, y.av] [] fun r H => r = .ret (.b (x.same y)) ∧ H = [] := by
  induction x with
  | nil =>
    intro y
    cases y with
    | nil =>
      refine ACall.enter tok false Tryd.func12 rfl rfl rfl (AW_sound (ip := false) tok _ _ _ _ ?_)
      conv => whnf
      exact ⟨rfl, rfl⟩
    | nd k w o n l r =>
      refine ACall.enter tok false Tryd.func12 rfl rfl rfl (AW_sound (ip := false) tok _ _ _ _ ?_)
      conv => whnf
      exact ⟨rfl, rfl⟩
  | nd k w o n l r ihl ihr =>
    intro y
    cases y with
    | nil =>
      refine ACall.enter tok false Tryd.func12 rfl rfl rfl (AW_sound (ip := false) tok _ _ _ _ ?_)
      conv => whnf
      exact ⟨rfl, rfl⟩
    | nd k' w' o' n' l' r' =>
      refine ACall.enter tok false Tryd.func12 rfl rfl rfl (AW_sound (ip := false) tok _ _ _ _ ?_)
      conv => whnf
      refine ADraw.ph tok mixed false [([0, 1, 2, 3, 4, 5, 6, 7, 8, 9, 10, 11, 12, 13, 14, 15, 16, 17, 18, 19, 20, 21, 22, 23, 24, 25, 26, 27, 28, 29, 30, 31, 32, 33, 34, 35, 36, 37, 38, 39, 40, 41, 42, 43, 44, 45, 46, 47, 48, 49, 50], 51), ([52, 53, 54, 55, 56, 57, 58, 59, 60, 61], 62)] [63, 64] (by kernel_rfl) (fun _ _ _ _ h => h) ?_
      conv => whnf
      generalize hk : (k == k') = bhk
      cases bhk with
      | false =>
        conv => whnf
        exact ⟨congrArg (fun b => ARes.ret (AV.b b)) (by rw [Ex.same, hk]; rfl), rfl⟩
      | true =>
        conv => whnf
        generalize hw : ((sb w).data.toList == (sb w').data.toList) = bhw
        cases bhw with
        | false =>
          conv => whnf
          exact ⟨congrArg (fun b => ARes.ret (AV.b b)) (by rw [Ex.same, hk, show (w == w') = false from hw]; rfl), rfl⟩
        | true =>
          conv => whnf
          generalize ho : ((sb o).data.toList == (sb o').data.toList) = bho
          cases bho with
          | false =>
            conv => whnf
            exact ⟨congrArg (fun b => ARes.ret (AV.b b)) (by rw [Ex.same, hk, show (w == w') = true from hw, show (o == o') = false from ho]; rfl), rfl⟩
          | true =>
            conv => whnf
            generalize hn : (n == n') = bhn
            cases bhn with
            | false =>
              conv => whnf
              exact ⟨congrArg (fun b => ARes.ret (AV.b b)) (by rw [Ex.same, hk, show (w == w') = true from hw, show (o == o') = true from ho, hn]; rfl), rfl⟩
            | true =>
              conv => whnf
              refine ACall.mono (ihl l') ?_; rintro r0 H ⟨rfl, rfl⟩
              conv => whnf
              generalize hl : (l.same l') = bhl
              cases bhl with
              | false =>
                conv => whnf
                exact ⟨congrArg (fun b => ARes.ret (AV.b b)) (by rw [Ex.same, hk, show (w == w') = true from hw, show (o == o') = true from ho, hn, hl]; rfl), rfl⟩
              | true =>
                conv => whnf
                refine ACall.mono (ihr r') ?_; rintro r0 H ⟨rfl, rfl⟩
                conv => whnf
                exact ⟨congrArg (fun b => ARes.ret (AV.b b)) (by rw [Ex.same, hk, show (w == w') = true from hw, show (o == o') = true from ho, hn, hl]; rfl), rfl⟩
end Go.AK
namespace Go.AK
open Go Go.RowKit Go.Proofs
set_option linter.unusedVariables false
set_option maxRecDepth 100000
theorem GT.checkE {x : Ex} (h : GT x) (hd : x.depth ≤ 64) : x.checkE = 0 := by
  unfold Ex.checkE
  rw [h.ne, h.treeE, if_neg (by decide), if_neg (by omega)]
theorem wt_ful {x : Ex} (h : GT x) : x.wt ≤ 41 * x.ful 0 := by
  induction h with
  | and l r hl hr il ir =>
    have e : (Ex.nd 2 [] [] 0 l r).ful 0 = tlen (l.tk 2 ++ wAnd :: r.tk 3) := rfl
    have := ful_mono l (show (0 : Int) ≤ 2 by decide)
    have := ful_mono r (show (0 : Int) ≤ 3 by decide)
    simp only [Ex.ful] at *
    rw [e, tlen_append, tlen_cons, Ex.wt]
    simp only [wAnd, List.length_cons, List.length_nil]; omega
  | or l r hl hr il ir =>
    have e : (Ex.nd 3 [] [] 0 l r).ful 0 = tlen (l.tk 1 ++ wOr :: r.tk 2) := rfl
    have := ful_mono l (show (0 : Int) ≤ 1 by decide)
    have := ful_mono r (show (0 : Int) ≤ 2 by decide)
    simp only [Ex.ful] at *
    rw [e, tlen_append, tlen_cons, Ex.wt]
    simp only [wOr, List.length_cons, List.length_nil]; omega
  | not l hl ih =>
    have e : (Ex.nd 1 [] [] 0 l .nil).ful 0 = tlen (wNot :: l.tk 3) := rfl
    have := ful_mono l (show (0 : Int) ≤ 3 by decide)
    simp only [Ex.ful] at *
    rw [e, tlen_cons, Ex.wt]
    simp only [wNot, Ex.wt, List.length_cons, List.length_nil]; omega
  | cmp w o n hw ho h0 =>
    have e : (Ex.nd 4 w o n .nil .nil).ful 0 = tlen [w, o, Lib.itoa n] := rfl
    have := List.length_pos_iff.2 (num_letters hw).1
    rw [e, tlen_cons, tlen_cons, tlen_cons, Ex.wt]
    simp only [Ex.wt]; omega
  | flag w hw =>
    have e : (Ex.nd 5 w [] 0 .nil .nil).ful 0 = tlen [w] := rfl
    have := List.length_pos_iff.2 (flag_letters hw).1
    rw [e, tlen_cons, Ex.wt]
    simp only [Ex.wt, List.length_nil]; omega
  | tru => decide
  | fls => decide
theorem parseE_txt {x : Ex} (h : GT x) (hn : x.okN) (hd : x.depth ≤ 64) (hl : (x.txt 0).length ≤ 8192) : parseE (x.txt 0) = (x, 0, 0) := by
  rw [parseE_of hl (parse_txt h hn hd)]
  show (if ([] : Str) ≠ [] then (Ex.nil, (x.txt 0).length, (11 : Int)) else if 64 < x.depth then (.nil, 0, 12) else (x, 0, 0)) = _
  rw [if_neg (by simp), if_neg (by omega)]
theorem txt_inj {x y : Ex} (hx : GT x) (nx : x.okN) (dx : x.depth ≤ 64) (hy : GT y) (ny : y.okN) (dy : y.depth ≤ 64) (h : x.txt 0 = y.txt 0) : x = y := by
  have h1 := parse_txt hx nx dx
  have h2 := parse_txt hy ny dy
  rw [h] at h1
  obtain ⟨f, a, b⟩ := h1.two h2
  rw [a] at b
  simp only [PR.ok.injEq] at b
  exact b.1
theorem exprBack_spec (l m : List Nod) (hl : l.length ≤ 9223372036854775807) (hm : m.length ≤ 9223372036854775807) (okl : ∀ a ∈ l, a.ok) (okm : ∀ a ∈ m, a.ok) (s : Str) :
    ACall Tryd.prog 5 [.rs (nods l) 0 6 l.length, .rs (nods m) 0 6 m.length, .s (sb s)] [] fun R H => R = .ret (.b true) ∧ H = [] := by
  have aw := awake_spec
  have fl := few_spec l hl
  have fm := few_spec m hm
  refine ACall.enter tok false Tryd.func5 rfl rfl rfl (AW_sound (ip := false) tok _ _ _ _ ?_)
  by_cases hgo : fewB l = true ∧ fewB m = true ∧ s.length ≤ 1000
  · obtain ⟨hfl, hfm, hsl⟩ := hgo
    rw [hfl] at fl
    rw [hfm] at fm
    have tl := tree_mk_spec l (by have := (fewB_of hfl).1; omega)
    have tm := tree_mk_spec m (by have := (fewB_of hfm).1; omega)
    have ox := treeOf_ok hfl okl
    have oy := treeOf_ok hfm okm
    generalize treeOf l = x at tl ox
    generalize treeOf m = y at tm oy
    have htx := Text_spec x (by have := ox.dep; omega) ox.num (by have := ox.wt; omega)
    have hty := Text_spec y (by have := oy.dep; omega) oy.num (by have := oy.wt; omega)
    have he := equal_spec x y
    have hxx := equal_spec x x
    rw [show x.same x = true from Ex.same_iff.2 rfl] at hxx
    have hs := parse_spec s (by omega)
    have hfs := full_spec s (by omega)
    have hpt : x.checkE = 0 → x.textE.length ≤ 8192 → ACall Tryd.prog 10 [.s (sb x.textE)] [] fun R H => R = .ret (.tup [x.av, .i .i64 0, .i .i64 0]) ∧ H = [] := by
      intro h h2
      obtain ⟨h3, h4, h5⟩ := check_ok h
      have et : x.textE = x.txt 0 := by unfold Ex.textE; rw [if_pos h]
      have hp := parse_spec x.textE (by omega)
      rw [et] at h2 hp ⊢
      rw [parseE_txt (GT_of x h5 h3) ox.num h4 h2] at hp
      exact hp
    have hinj : x.checkE = 0 → y.checkE = 0 → ((x.textE == y.textE) != x.same y) = false := by
      intro h h2
      obtain ⟨h3, h4, h5⟩ := check_ok h
      obtain ⟨k3, k4, k5⟩ := check_ok h2
      have et : x.textE = x.txt 0 := by unfold Ex.textE; rw [if_pos h]
      have et2 : y.textE = y.txt 0 := by unfold Ex.textE; rw [if_pos h2]
      rw [et, et2]
      by_cases hxy : x = y
      · subst hxy
        rw [show x.same x = true from Ex.same_iff.2 rfl]; simp
      · have h1 : x.same y = false := by
          cases h : x.same y with
          | false => rfl
          | true => exact absurd (Ex.same_iff.1 h) hxy
        have h2 : (x.txt 0 == y.txt 0) = false := by
          rw [beq_eq_false_iff_ne]
          exact fun e => hxy (txt_inj (GT_of x h5 h3) ox.num h4 (GT_of y k5 k3) oy.num k4 e)
        rw [h1, h2]; rfl
    have hlen : ((sb x.textE).size : Int) ≤ 8192 ↔ x.textE.length ≤ 8192 := by rw [sb_size]; omega
    generalize x.textE = tx at htx hpt hinj hlen
    generalize y.textE = ty at hty hinj
    generalize x.checkE = ex at htx hpt hinj
    generalize y.checkE = ey at hty hinj
    generalize hsm : x.same y = sm at he hinj
    obtain ⟨v, p, e, hv⟩ : ∃ v p e, parseE s = (v, p, e) := ⟨_, _, _, rfl⟩
    have hu := parse_use s
    rw [hv] at hs hu
    have g0 : ¬ ((sb s).size : Int) > 1000 := by rw [sb_size]; omega
    have g1 := decide_eq_false g0
    by_cases he0 : e = 0
    · subst he0
      have hp0 := hu.2.2 v p rfl
      subst hp0
      obtain ⟨gv, nv, dv, fv⟩ := hu.1 v rfl
      have htv := Text_spec v (by omega) nv (by have := wt_ful gv; have := fullS_le s; omega)
      have hcv := check_spec v (by omega)
      have hvv := equal_spec v v
      rw [show v.same v = true from Ex.same_iff.2 rfl] at hvv
      have c0 := gv.checkE dv
      have et : v.textE = v.txt 0 := by unfold Ex.textE; rw [if_pos c0]
      have ⟨q1, q2⟩ := txt_ful gv 0
      have hfl8 := fullS_le s
      have hpv := parse_spec (v.txt 0) (by omega)
      rw [parseE_txt gv nv dv (by omega)] at hpv
      have hfv := full_spec (v.txt 0) (by omega)
      have b9 : decide (((fullS (v.txt 0) : Nat) : Int) ≤ ((fullS s : Nat) : Int)) = true := decide_eq_true (by omega)
      rw [c0, et] at htv
      rw [c0] at hcv
      by_cases ex0 : ex = 0
      · have bx : (ex == 0) = true := by simpa using ex0
        by_cases txl : tx.length ≤ 8192
        · have bl : decide (((sb tx).size : Int) ≤ 8192) = true := decide_eq_true (hlen.2 txl)
          by_cases ey0 : ey = 0
          · have by_ : (ey == 0) = true := by simpa using ey0
            conv => whnf
            refine ACall.mono fl ?_; rintro r0 H ⟨rfl, rfl⟩
            conv => whnf
            repeat (first | (refine acond_f (g1) ?_; conv => whnf) | (refine acond_t (bx) ?_; conv => whnf) | (refine acond_t (bl) ?_; conv => whnf) | (refine acond_t (by_) ?_; conv => whnf) | (refine acond_f ((hinj ex0 ey0)) ?_; conv => whnf) | (refine acond_t (b9) ?_; conv => whnf))
            refine ACall.mono fm ?_; rintro r0 H ⟨rfl, rfl⟩
            conv => whnf
            repeat (first | (refine acond_f (g1) ?_; conv => whnf) | (refine acond_t (bx) ?_; conv => whnf) | (refine acond_t (bl) ?_; conv => whnf) | (refine acond_t (by_) ?_; conv => whnf) | (refine acond_f ((hinj ex0 ey0)) ?_; conv => whnf) | (refine acond_t (b9) ?_; conv => whnf))
            refine ACall.mono tl ?_; rintro r0 H ⟨rfl, rfl⟩
            conv => whnf
            repeat (first | (refine acond_f (g1) ?_; conv => whnf) | (refine acond_t (bx) ?_; conv => whnf) | (refine acond_t (bl) ?_; conv => whnf) | (refine acond_t (by_) ?_; conv => whnf) | (refine acond_f ((hinj ex0 ey0)) ?_; conv => whnf) | (refine acond_t (b9) ?_; conv => whnf))
            refine ACall.mono tm ?_; rintro r0 H ⟨rfl, rfl⟩
            conv => whnf
            repeat (first | (refine acond_f (g1) ?_; conv => whnf) | (refine acond_t (bx) ?_; conv => whnf) | (refine acond_t (bl) ?_; conv => whnf) | (refine acond_t (by_) ?_; conv => whnf) | (refine acond_f ((hinj ex0 ey0)) ?_; conv => whnf) | (refine acond_t (b9) ?_; conv => whnf))
            refine ACall.mono htx ?_; rintro r0 H ⟨rfl, rfl⟩
            conv => whnf
            repeat (first | (refine acond_f (g1) ?_; conv => whnf) | (refine acond_t (bx) ?_; conv => whnf) | (refine acond_t (bl) ?_; conv => whnf) | (refine acond_t (by_) ?_; conv => whnf) | (refine acond_f ((hinj ex0 ey0)) ?_; conv => whnf) | (refine acond_t (b9) ?_; conv => whnf))
            refine ACall.mono hty ?_; rintro r0 H ⟨rfl, rfl⟩
            conv => whnf
            repeat (first | (refine acond_f (g1) ?_; conv => whnf) | (refine acond_t (bx) ?_; conv => whnf) | (refine acond_t (bl) ?_; conv => whnf) | (refine acond_t (by_) ?_; conv => whnf) | (refine acond_f ((hinj ex0 ey0)) ?_; conv => whnf) | (refine acond_t (b9) ?_; conv => whnf))
            refine ACall.mono (hpt ex0 txl) ?_; rintro r0 H ⟨rfl, rfl⟩
            conv => whnf
            repeat (first | (refine acond_f (g1) ?_; conv => whnf) | (refine acond_t (bx) ?_; conv => whnf) | (refine acond_t (bl) ?_; conv => whnf) | (refine acond_t (by_) ?_; conv => whnf) | (refine acond_f ((hinj ex0 ey0)) ?_; conv => whnf) | (refine acond_t (b9) ?_; conv => whnf))
            refine ACall.mono hxx ?_; rintro r0 H ⟨rfl, rfl⟩
            conv => whnf
            repeat (first | (refine acond_f (g1) ?_; conv => whnf) | (refine acond_t (bx) ?_; conv => whnf) | (refine acond_t (bl) ?_; conv => whnf) | (refine acond_t (by_) ?_; conv => whnf) | (refine acond_f ((hinj ex0 ey0)) ?_; conv => whnf) | (refine acond_t (b9) ?_; conv => whnf))
            refine ACall.mono he ?_; rintro r0 H ⟨rfl, rfl⟩
            conv => whnf
            repeat (first | (refine acond_f (g1) ?_; conv => whnf) | (refine acond_t (bx) ?_; conv => whnf) | (refine acond_t (bl) ?_; conv => whnf) | (refine acond_t (by_) ?_; conv => whnf) | (refine acond_f ((hinj ex0 ey0)) ?_; conv => whnf) | (refine acond_t (b9) ?_; conv => whnf))
            refine ACall.mono hs ?_; rintro r0 H ⟨rfl, rfl⟩
            conv => whnf
            repeat (first | (refine acond_f (g1) ?_; conv => whnf) | (refine acond_t (bx) ?_; conv => whnf) | (refine acond_t (bl) ?_; conv => whnf) | (refine acond_t (by_) ?_; conv => whnf) | (refine acond_f ((hinj ex0 ey0)) ?_; conv => whnf) | (refine acond_t (b9) ?_; conv => whnf))
            refine ACall.mono htv ?_; rintro r0 H ⟨rfl, rfl⟩
            conv => whnf
            repeat (first | (refine acond_f (g1) ?_; conv => whnf) | (refine acond_t (bx) ?_; conv => whnf) | (refine acond_t (bl) ?_; conv => whnf) | (refine acond_t (by_) ?_; conv => whnf) | (refine acond_f ((hinj ex0 ey0)) ?_; conv => whnf) | (refine acond_t (b9) ?_; conv => whnf))
            refine ACall.mono hpv ?_; rintro r0 H ⟨rfl, rfl⟩
            conv => whnf
            repeat (first | (refine acond_f (g1) ?_; conv => whnf) | (refine acond_t (bx) ?_; conv => whnf) | (refine acond_t (bl) ?_; conv => whnf) | (refine acond_t (by_) ?_; conv => whnf) | (refine acond_f ((hinj ex0 ey0)) ?_; conv => whnf) | (refine acond_t (b9) ?_; conv => whnf))
            refine ACall.mono hcv ?_; rintro r0 H ⟨rfl, rfl⟩
            conv => whnf
            repeat (first | (refine acond_f (g1) ?_; conv => whnf) | (refine acond_t (bx) ?_; conv => whnf) | (refine acond_t (bl) ?_; conv => whnf) | (refine acond_t (by_) ?_; conv => whnf) | (refine acond_f ((hinj ex0 ey0)) ?_; conv => whnf) | (refine acond_t (b9) ?_; conv => whnf))
            refine ACall.mono hvv ?_; rintro r0 H ⟨rfl, rfl⟩
            conv => whnf
            repeat (first | (refine acond_f (g1) ?_; conv => whnf) | (refine acond_t (bx) ?_; conv => whnf) | (refine acond_t (bl) ?_; conv => whnf) | (refine acond_t (by_) ?_; conv => whnf) | (refine acond_f ((hinj ex0 ey0)) ?_; conv => whnf) | (refine acond_t (b9) ?_; conv => whnf))
            refine ACall.mono hfv ?_; rintro r0 H ⟨rfl, rfl⟩
            conv => whnf
            repeat (first | (refine acond_f (g1) ?_; conv => whnf) | (refine acond_t (bx) ?_; conv => whnf) | (refine acond_t (bl) ?_; conv => whnf) | (refine acond_t (by_) ?_; conv => whnf) | (refine acond_f ((hinj ex0 ey0)) ?_; conv => whnf) | (refine acond_t (b9) ?_; conv => whnf))
            refine ACall.mono hfs ?_; rintro r0 H ⟨rfl, rfl⟩
            conv => whnf
            repeat (first | (refine acond_f (g1) ?_; conv => whnf) | (refine acond_t (bx) ?_; conv => whnf) | (refine acond_t (bl) ?_; conv => whnf) | (refine acond_t (by_) ?_; conv => whnf) | (refine acond_f ((hinj ex0 ey0)) ?_; conv => whnf) | (refine acond_t (b9) ?_; conv => whnf))
            refine ACall.mono aw ?_; rintro r0 H ⟨rfl, rfl⟩
            conv => whnf
            repeat (first | (refine acond_f (g1) ?_; conv => whnf) | (refine acond_t (bx) ?_; conv => whnf) | (refine acond_t (bl) ?_; conv => whnf) | (refine acond_t (by_) ?_; conv => whnf) | (refine acond_f ((hinj ex0 ey0)) ?_; conv => whnf) | (refine acond_t (b9) ?_; conv => whnf))
            exact ⟨rfl, rfl⟩
          · have by_ : (ey == 0) = false := by simpa using ey0
            conv => whnf
            refine ACall.mono fl ?_; rintro r0 H ⟨rfl, rfl⟩
            conv => whnf
            repeat (first | (refine acond_f (g1) ?_; conv => whnf) | (refine acond_t (bx) ?_; conv => whnf) | (refine acond_t (bl) ?_; conv => whnf) | (refine acond_f (by_) ?_; conv => whnf) | (refine acond_t (b9) ?_; conv => whnf))
            refine ACall.mono fm ?_; rintro r0 H ⟨rfl, rfl⟩
            conv => whnf
            repeat (first | (refine acond_f (g1) ?_; conv => whnf) | (refine acond_t (bx) ?_; conv => whnf) | (refine acond_t (bl) ?_; conv => whnf) | (refine acond_f (by_) ?_; conv => whnf) | (refine acond_t (b9) ?_; conv => whnf))
            refine ACall.mono tl ?_; rintro r0 H ⟨rfl, rfl⟩
            conv => whnf
            repeat (first | (refine acond_f (g1) ?_; conv => whnf) | (refine acond_t (bx) ?_; conv => whnf) | (refine acond_t (bl) ?_; conv => whnf) | (refine acond_f (by_) ?_; conv => whnf) | (refine acond_t (b9) ?_; conv => whnf))
            refine ACall.mono tm ?_; rintro r0 H ⟨rfl, rfl⟩
            conv => whnf
            repeat (first | (refine acond_f (g1) ?_; conv => whnf) | (refine acond_t (bx) ?_; conv => whnf) | (refine acond_t (bl) ?_; conv => whnf) | (refine acond_f (by_) ?_; conv => whnf) | (refine acond_t (b9) ?_; conv => whnf))
            refine ACall.mono htx ?_; rintro r0 H ⟨rfl, rfl⟩
            conv => whnf
            repeat (first | (refine acond_f (g1) ?_; conv => whnf) | (refine acond_t (bx) ?_; conv => whnf) | (refine acond_t (bl) ?_; conv => whnf) | (refine acond_f (by_) ?_; conv => whnf) | (refine acond_t (b9) ?_; conv => whnf))
            refine ACall.mono hty ?_; rintro r0 H ⟨rfl, rfl⟩
            conv => whnf
            repeat (first | (refine acond_f (g1) ?_; conv => whnf) | (refine acond_t (bx) ?_; conv => whnf) | (refine acond_t (bl) ?_; conv => whnf) | (refine acond_f (by_) ?_; conv => whnf) | (refine acond_t (b9) ?_; conv => whnf))
            refine ACall.mono (hpt ex0 txl) ?_; rintro r0 H ⟨rfl, rfl⟩
            conv => whnf
            repeat (first | (refine acond_f (g1) ?_; conv => whnf) | (refine acond_t (bx) ?_; conv => whnf) | (refine acond_t (bl) ?_; conv => whnf) | (refine acond_f (by_) ?_; conv => whnf) | (refine acond_t (b9) ?_; conv => whnf))
            refine ACall.mono hxx ?_; rintro r0 H ⟨rfl, rfl⟩
            conv => whnf
            repeat (first | (refine acond_f (g1) ?_; conv => whnf) | (refine acond_t (bx) ?_; conv => whnf) | (refine acond_t (bl) ?_; conv => whnf) | (refine acond_f (by_) ?_; conv => whnf) | (refine acond_t (b9) ?_; conv => whnf))
            refine ACall.mono hs ?_; rintro r0 H ⟨rfl, rfl⟩
            conv => whnf
            repeat (first | (refine acond_f (g1) ?_; conv => whnf) | (refine acond_t (bx) ?_; conv => whnf) | (refine acond_t (bl) ?_; conv => whnf) | (refine acond_f (by_) ?_; conv => whnf) | (refine acond_t (b9) ?_; conv => whnf))
            refine ACall.mono htv ?_; rintro r0 H ⟨rfl, rfl⟩
            conv => whnf
            repeat (first | (refine acond_f (g1) ?_; conv => whnf) | (refine acond_t (bx) ?_; conv => whnf) | (refine acond_t (bl) ?_; conv => whnf) | (refine acond_f (by_) ?_; conv => whnf) | (refine acond_t (b9) ?_; conv => whnf))
            refine ACall.mono hpv ?_; rintro r0 H ⟨rfl, rfl⟩
            conv => whnf
            repeat (first | (refine acond_f (g1) ?_; conv => whnf) | (refine acond_t (bx) ?_; conv => whnf) | (refine acond_t (bl) ?_; conv => whnf) | (refine acond_f (by_) ?_; conv => whnf) | (refine acond_t (b9) ?_; conv => whnf))
            refine ACall.mono hcv ?_; rintro r0 H ⟨rfl, rfl⟩
            conv => whnf
            repeat (first | (refine acond_f (g1) ?_; conv => whnf) | (refine acond_t (bx) ?_; conv => whnf) | (refine acond_t (bl) ?_; conv => whnf) | (refine acond_f (by_) ?_; conv => whnf) | (refine acond_t (b9) ?_; conv => whnf))
            refine ACall.mono hvv ?_; rintro r0 H ⟨rfl, rfl⟩
            conv => whnf
            repeat (first | (refine acond_f (g1) ?_; conv => whnf) | (refine acond_t (bx) ?_; conv => whnf) | (refine acond_t (bl) ?_; conv => whnf) | (refine acond_f (by_) ?_; conv => whnf) | (refine acond_t (b9) ?_; conv => whnf))
            refine ACall.mono hfv ?_; rintro r0 H ⟨rfl, rfl⟩
            conv => whnf
            repeat (first | (refine acond_f (g1) ?_; conv => whnf) | (refine acond_t (bx) ?_; conv => whnf) | (refine acond_t (bl) ?_; conv => whnf) | (refine acond_f (by_) ?_; conv => whnf) | (refine acond_t (b9) ?_; conv => whnf))
            refine ACall.mono hfs ?_; rintro r0 H ⟨rfl, rfl⟩
            conv => whnf
            repeat (first | (refine acond_f (g1) ?_; conv => whnf) | (refine acond_t (bx) ?_; conv => whnf) | (refine acond_t (bl) ?_; conv => whnf) | (refine acond_f (by_) ?_; conv => whnf) | (refine acond_t (b9) ?_; conv => whnf))
            refine ACall.mono aw ?_; rintro r0 H ⟨rfl, rfl⟩
            conv => whnf
            repeat (first | (refine acond_f (g1) ?_; conv => whnf) | (refine acond_t (bx) ?_; conv => whnf) | (refine acond_t (bl) ?_; conv => whnf) | (refine acond_f (by_) ?_; conv => whnf) | (refine acond_t (b9) ?_; conv => whnf))
            exact ⟨rfl, rfl⟩
        · have bl : decide (((sb tx).size : Int) ≤ 8192) = false := decide_eq_false fun h => txl (hlen.1 h)
          by_cases ey0 : ey = 0
          · have by_ : (ey == 0) = true := by simpa using ey0
            conv => whnf
            refine ACall.mono fl ?_; rintro r0 H ⟨rfl, rfl⟩
            conv => whnf
            repeat (first | (refine acond_f (g1) ?_; conv => whnf) | (refine acond_t (bx) ?_; conv => whnf) | (refine acond_f (bl) ?_; conv => whnf) | (refine acond_t (by_) ?_; conv => whnf) | (refine acond_f ((hinj ex0 ey0)) ?_; conv => whnf) | (refine acond_t (b9) ?_; conv => whnf))
            refine ACall.mono fm ?_; rintro r0 H ⟨rfl, rfl⟩
            conv => whnf
            repeat (first | (refine acond_f (g1) ?_; conv => whnf) | (refine acond_t (bx) ?_; conv => whnf) | (refine acond_f (bl) ?_; conv => whnf) | (refine acond_t (by_) ?_; conv => whnf) | (refine acond_f ((hinj ex0 ey0)) ?_; conv => whnf) | (refine acond_t (b9) ?_; conv => whnf))
            refine ACall.mono tl ?_; rintro r0 H ⟨rfl, rfl⟩
            conv => whnf
            repeat (first | (refine acond_f (g1) ?_; conv => whnf) | (refine acond_t (bx) ?_; conv => whnf) | (refine acond_f (bl) ?_; conv => whnf) | (refine acond_t (by_) ?_; conv => whnf) | (refine acond_f ((hinj ex0 ey0)) ?_; conv => whnf) | (refine acond_t (b9) ?_; conv => whnf))
            refine ACall.mono tm ?_; rintro r0 H ⟨rfl, rfl⟩
            conv => whnf
            repeat (first | (refine acond_f (g1) ?_; conv => whnf) | (refine acond_t (bx) ?_; conv => whnf) | (refine acond_f (bl) ?_; conv => whnf) | (refine acond_t (by_) ?_; conv => whnf) | (refine acond_f ((hinj ex0 ey0)) ?_; conv => whnf) | (refine acond_t (b9) ?_; conv => whnf))
            refine ACall.mono htx ?_; rintro r0 H ⟨rfl, rfl⟩
            conv => whnf
            repeat (first | (refine acond_f (g1) ?_; conv => whnf) | (refine acond_t (bx) ?_; conv => whnf) | (refine acond_f (bl) ?_; conv => whnf) | (refine acond_t (by_) ?_; conv => whnf) | (refine acond_f ((hinj ex0 ey0)) ?_; conv => whnf) | (refine acond_t (b9) ?_; conv => whnf))
            refine ACall.mono hty ?_; rintro r0 H ⟨rfl, rfl⟩
            conv => whnf
            repeat (first | (refine acond_f (g1) ?_; conv => whnf) | (refine acond_t (bx) ?_; conv => whnf) | (refine acond_f (bl) ?_; conv => whnf) | (refine acond_t (by_) ?_; conv => whnf) | (refine acond_f ((hinj ex0 ey0)) ?_; conv => whnf) | (refine acond_t (b9) ?_; conv => whnf))
            refine ACall.mono he ?_; rintro r0 H ⟨rfl, rfl⟩
            conv => whnf
            repeat (first | (refine acond_f (g1) ?_; conv => whnf) | (refine acond_t (bx) ?_; conv => whnf) | (refine acond_f (bl) ?_; conv => whnf) | (refine acond_t (by_) ?_; conv => whnf) | (refine acond_f ((hinj ex0 ey0)) ?_; conv => whnf) | (refine acond_t (b9) ?_; conv => whnf))
            refine ACall.mono hs ?_; rintro r0 H ⟨rfl, rfl⟩
            conv => whnf
            repeat (first | (refine acond_f (g1) ?_; conv => whnf) | (refine acond_t (bx) ?_; conv => whnf) | (refine acond_f (bl) ?_; conv => whnf) | (refine acond_t (by_) ?_; conv => whnf) | (refine acond_f ((hinj ex0 ey0)) ?_; conv => whnf) | (refine acond_t (b9) ?_; conv => whnf))
            refine ACall.mono htv ?_; rintro r0 H ⟨rfl, rfl⟩
            conv => whnf
            repeat (first | (refine acond_f (g1) ?_; conv => whnf) | (refine acond_t (bx) ?_; conv => whnf) | (refine acond_f (bl) ?_; conv => whnf) | (refine acond_t (by_) ?_; conv => whnf) | (refine acond_f ((hinj ex0 ey0)) ?_; conv => whnf) | (refine acond_t (b9) ?_; conv => whnf))
            refine ACall.mono hpv ?_; rintro r0 H ⟨rfl, rfl⟩
            conv => whnf
            repeat (first | (refine acond_f (g1) ?_; conv => whnf) | (refine acond_t (bx) ?_; conv => whnf) | (refine acond_f (bl) ?_; conv => whnf) | (refine acond_t (by_) ?_; conv => whnf) | (refine acond_f ((hinj ex0 ey0)) ?_; conv => whnf) | (refine acond_t (b9) ?_; conv => whnf))
            refine ACall.mono hcv ?_; rintro r0 H ⟨rfl, rfl⟩
            conv => whnf
            repeat (first | (refine acond_f (g1) ?_; conv => whnf) | (refine acond_t (bx) ?_; conv => whnf) | (refine acond_f (bl) ?_; conv => whnf) | (refine acond_t (by_) ?_; conv => whnf) | (refine acond_f ((hinj ex0 ey0)) ?_; conv => whnf) | (refine acond_t (b9) ?_; conv => whnf))
            refine ACall.mono hvv ?_; rintro r0 H ⟨rfl, rfl⟩
            conv => whnf
            repeat (first | (refine acond_f (g1) ?_; conv => whnf) | (refine acond_t (bx) ?_; conv => whnf) | (refine acond_f (bl) ?_; conv => whnf) | (refine acond_t (by_) ?_; conv => whnf) | (refine acond_f ((hinj ex0 ey0)) ?_; conv => whnf) | (refine acond_t (b9) ?_; conv => whnf))
            refine ACall.mono hfv ?_; rintro r0 H ⟨rfl, rfl⟩
            conv => whnf
            repeat (first | (refine acond_f (g1) ?_; conv => whnf) | (refine acond_t (bx) ?_; conv => whnf) | (refine acond_f (bl) ?_; conv => whnf) | (refine acond_t (by_) ?_; conv => whnf) | (refine acond_f ((hinj ex0 ey0)) ?_; conv => whnf) | (refine acond_t (b9) ?_; conv => whnf))
            refine ACall.mono hfs ?_; rintro r0 H ⟨rfl, rfl⟩
            conv => whnf
            repeat (first | (refine acond_f (g1) ?_; conv => whnf) | (refine acond_t (bx) ?_; conv => whnf) | (refine acond_f (bl) ?_; conv => whnf) | (refine acond_t (by_) ?_; conv => whnf) | (refine acond_f ((hinj ex0 ey0)) ?_; conv => whnf) | (refine acond_t (b9) ?_; conv => whnf))
            refine ACall.mono aw ?_; rintro r0 H ⟨rfl, rfl⟩
            conv => whnf
            repeat (first | (refine acond_f (g1) ?_; conv => whnf) | (refine acond_t (bx) ?_; conv => whnf) | (refine acond_f (bl) ?_; conv => whnf) | (refine acond_t (by_) ?_; conv => whnf) | (refine acond_f ((hinj ex0 ey0)) ?_; conv => whnf) | (refine acond_t (b9) ?_; conv => whnf))
            exact ⟨rfl, rfl⟩
          · have by_ : (ey == 0) = false := by simpa using ey0
            conv => whnf
            refine ACall.mono fl ?_; rintro r0 H ⟨rfl, rfl⟩
            conv => whnf
            repeat (first | (refine acond_f (g1) ?_; conv => whnf) | (refine acond_t (bx) ?_; conv => whnf) | (refine acond_f (bl) ?_; conv => whnf) | (refine acond_f (by_) ?_; conv => whnf) | (refine acond_t (b9) ?_; conv => whnf))
            refine ACall.mono fm ?_; rintro r0 H ⟨rfl, rfl⟩
            conv => whnf
            repeat (first | (refine acond_f (g1) ?_; conv => whnf) | (refine acond_t (bx) ?_; conv => whnf) | (refine acond_f (bl) ?_; conv => whnf) | (refine acond_f (by_) ?_; conv => whnf) | (refine acond_t (b9) ?_; conv => whnf))
            refine ACall.mono tl ?_; rintro r0 H ⟨rfl, rfl⟩
            conv => whnf
            repeat (first | (refine acond_f (g1) ?_; conv => whnf) | (refine acond_t (bx) ?_; conv => whnf) | (refine acond_f (bl) ?_; conv => whnf) | (refine acond_f (by_) ?_; conv => whnf) | (refine acond_t (b9) ?_; conv => whnf))
            refine ACall.mono tm ?_; rintro r0 H ⟨rfl, rfl⟩
            conv => whnf
            repeat (first | (refine acond_f (g1) ?_; conv => whnf) | (refine acond_t (bx) ?_; conv => whnf) | (refine acond_f (bl) ?_; conv => whnf) | (refine acond_f (by_) ?_; conv => whnf) | (refine acond_t (b9) ?_; conv => whnf))
            refine ACall.mono htx ?_; rintro r0 H ⟨rfl, rfl⟩
            conv => whnf
            repeat (first | (refine acond_f (g1) ?_; conv => whnf) | (refine acond_t (bx) ?_; conv => whnf) | (refine acond_f (bl) ?_; conv => whnf) | (refine acond_f (by_) ?_; conv => whnf) | (refine acond_t (b9) ?_; conv => whnf))
            refine ACall.mono hty ?_; rintro r0 H ⟨rfl, rfl⟩
            conv => whnf
            repeat (first | (refine acond_f (g1) ?_; conv => whnf) | (refine acond_t (bx) ?_; conv => whnf) | (refine acond_f (bl) ?_; conv => whnf) | (refine acond_f (by_) ?_; conv => whnf) | (refine acond_t (b9) ?_; conv => whnf))
            refine ACall.mono hs ?_; rintro r0 H ⟨rfl, rfl⟩
            conv => whnf
            repeat (first | (refine acond_f (g1) ?_; conv => whnf) | (refine acond_t (bx) ?_; conv => whnf) | (refine acond_f (bl) ?_; conv => whnf) | (refine acond_f (by_) ?_; conv => whnf) | (refine acond_t (b9) ?_; conv => whnf))
            refine ACall.mono htv ?_; rintro r0 H ⟨rfl, rfl⟩
            conv => whnf
            repeat (first | (refine acond_f (g1) ?_; conv => whnf) | (refine acond_t (bx) ?_; conv => whnf) | (refine acond_f (bl) ?_; conv => whnf) | (refine acond_f (by_) ?_; conv => whnf) | (refine acond_t (b9) ?_; conv => whnf))
            refine ACall.mono hpv ?_; rintro r0 H ⟨rfl, rfl⟩
            conv => whnf
            repeat (first | (refine acond_f (g1) ?_; conv => whnf) | (refine acond_t (bx) ?_; conv => whnf) | (refine acond_f (bl) ?_; conv => whnf) | (refine acond_f (by_) ?_; conv => whnf) | (refine acond_t (b9) ?_; conv => whnf))
            refine ACall.mono hcv ?_; rintro r0 H ⟨rfl, rfl⟩
            conv => whnf
            repeat (first | (refine acond_f (g1) ?_; conv => whnf) | (refine acond_t (bx) ?_; conv => whnf) | (refine acond_f (bl) ?_; conv => whnf) | (refine acond_f (by_) ?_; conv => whnf) | (refine acond_t (b9) ?_; conv => whnf))
            refine ACall.mono hvv ?_; rintro r0 H ⟨rfl, rfl⟩
            conv => whnf
            repeat (first | (refine acond_f (g1) ?_; conv => whnf) | (refine acond_t (bx) ?_; conv => whnf) | (refine acond_f (bl) ?_; conv => whnf) | (refine acond_f (by_) ?_; conv => whnf) | (refine acond_t (b9) ?_; conv => whnf))
            refine ACall.mono hfv ?_; rintro r0 H ⟨rfl, rfl⟩
            conv => whnf
            repeat (first | (refine acond_f (g1) ?_; conv => whnf) | (refine acond_t (bx) ?_; conv => whnf) | (refine acond_f (bl) ?_; conv => whnf) | (refine acond_f (by_) ?_; conv => whnf) | (refine acond_t (b9) ?_; conv => whnf))
            refine ACall.mono hfs ?_; rintro r0 H ⟨rfl, rfl⟩
            conv => whnf
            repeat (first | (refine acond_f (g1) ?_; conv => whnf) | (refine acond_t (bx) ?_; conv => whnf) | (refine acond_f (bl) ?_; conv => whnf) | (refine acond_f (by_) ?_; conv => whnf) | (refine acond_t (b9) ?_; conv => whnf))
            refine ACall.mono aw ?_; rintro r0 H ⟨rfl, rfl⟩
            conv => whnf
            repeat (first | (refine acond_f (g1) ?_; conv => whnf) | (refine acond_t (bx) ?_; conv => whnf) | (refine acond_f (bl) ?_; conv => whnf) | (refine acond_f (by_) ?_; conv => whnf) | (refine acond_t (b9) ?_; conv => whnf))
            exact ⟨rfl, rfl⟩
      · have bx : (ex == 0) = false := by simpa using ex0
        by_cases ey0 : ey = 0
        · have by_ : (ey == 0) = true := by simpa using ey0
          conv => whnf
          refine ACall.mono fl ?_; rintro r0 H ⟨rfl, rfl⟩
          conv => whnf
          repeat (first | (refine acond_f (g1) ?_; conv => whnf) | (refine acond_f (bx) ?_; conv => whnf) | (refine acond_t (by_) ?_; conv => whnf) | (refine acond_t (b9) ?_; conv => whnf))
          refine ACall.mono fm ?_; rintro r0 H ⟨rfl, rfl⟩
          conv => whnf
          repeat (first | (refine acond_f (g1) ?_; conv => whnf) | (refine acond_f (bx) ?_; conv => whnf) | (refine acond_t (by_) ?_; conv => whnf) | (refine acond_t (b9) ?_; conv => whnf))
          refine ACall.mono tl ?_; rintro r0 H ⟨rfl, rfl⟩
          conv => whnf
          repeat (first | (refine acond_f (g1) ?_; conv => whnf) | (refine acond_f (bx) ?_; conv => whnf) | (refine acond_t (by_) ?_; conv => whnf) | (refine acond_t (b9) ?_; conv => whnf))
          refine ACall.mono tm ?_; rintro r0 H ⟨rfl, rfl⟩
          conv => whnf
          repeat (first | (refine acond_f (g1) ?_; conv => whnf) | (refine acond_f (bx) ?_; conv => whnf) | (refine acond_t (by_) ?_; conv => whnf) | (refine acond_t (b9) ?_; conv => whnf))
          refine ACall.mono htx ?_; rintro r0 H ⟨rfl, rfl⟩
          conv => whnf
          repeat (first | (refine acond_f (g1) ?_; conv => whnf) | (refine acond_f (bx) ?_; conv => whnf) | (refine acond_t (by_) ?_; conv => whnf) | (refine acond_t (b9) ?_; conv => whnf))
          refine ACall.mono hty ?_; rintro r0 H ⟨rfl, rfl⟩
          conv => whnf
          repeat (first | (refine acond_f (g1) ?_; conv => whnf) | (refine acond_f (bx) ?_; conv => whnf) | (refine acond_t (by_) ?_; conv => whnf) | (refine acond_t (b9) ?_; conv => whnf))
          refine ACall.mono hs ?_; rintro r0 H ⟨rfl, rfl⟩
          conv => whnf
          repeat (first | (refine acond_f (g1) ?_; conv => whnf) | (refine acond_f (bx) ?_; conv => whnf) | (refine acond_t (by_) ?_; conv => whnf) | (refine acond_t (b9) ?_; conv => whnf))
          refine ACall.mono htv ?_; rintro r0 H ⟨rfl, rfl⟩
          conv => whnf
          repeat (first | (refine acond_f (g1) ?_; conv => whnf) | (refine acond_f (bx) ?_; conv => whnf) | (refine acond_t (by_) ?_; conv => whnf) | (refine acond_t (b9) ?_; conv => whnf))
          refine ACall.mono hpv ?_; rintro r0 H ⟨rfl, rfl⟩
          conv => whnf
          repeat (first | (refine acond_f (g1) ?_; conv => whnf) | (refine acond_f (bx) ?_; conv => whnf) | (refine acond_t (by_) ?_; conv => whnf) | (refine acond_t (b9) ?_; conv => whnf))
          refine ACall.mono hcv ?_; rintro r0 H ⟨rfl, rfl⟩
          conv => whnf
          repeat (first | (refine acond_f (g1) ?_; conv => whnf) | (refine acond_f (bx) ?_; conv => whnf) | (refine acond_t (by_) ?_; conv => whnf) | (refine acond_t (b9) ?_; conv => whnf))
          refine ACall.mono hvv ?_; rintro r0 H ⟨rfl, rfl⟩
          conv => whnf
          repeat (first | (refine acond_f (g1) ?_; conv => whnf) | (refine acond_f (bx) ?_; conv => whnf) | (refine acond_t (by_) ?_; conv => whnf) | (refine acond_t (b9) ?_; conv => whnf))
          refine ACall.mono hfv ?_; rintro r0 H ⟨rfl, rfl⟩
          conv => whnf
          repeat (first | (refine acond_f (g1) ?_; conv => whnf) | (refine acond_f (bx) ?_; conv => whnf) | (refine acond_t (by_) ?_; conv => whnf) | (refine acond_t (b9) ?_; conv => whnf))
          refine ACall.mono hfs ?_; rintro r0 H ⟨rfl, rfl⟩
          conv => whnf
          repeat (first | (refine acond_f (g1) ?_; conv => whnf) | (refine acond_f (bx) ?_; conv => whnf) | (refine acond_t (by_) ?_; conv => whnf) | (refine acond_t (b9) ?_; conv => whnf))
          refine ACall.mono aw ?_; rintro r0 H ⟨rfl, rfl⟩
          conv => whnf
          repeat (first | (refine acond_f (g1) ?_; conv => whnf) | (refine acond_f (bx) ?_; conv => whnf) | (refine acond_t (by_) ?_; conv => whnf) | (refine acond_t (b9) ?_; conv => whnf))
          exact ⟨rfl, rfl⟩
        · have by_ : (ey == 0) = false := by simpa using ey0
          conv => whnf
          refine ACall.mono fl ?_; rintro r0 H ⟨rfl, rfl⟩
          conv => whnf
          repeat (first | (refine acond_f (g1) ?_; conv => whnf) | (refine acond_f (bx) ?_; conv => whnf) | (refine acond_f (by_) ?_; conv => whnf) | (refine acond_t (b9) ?_; conv => whnf))
          refine ACall.mono fm ?_; rintro r0 H ⟨rfl, rfl⟩
          conv => whnf
          repeat (first | (refine acond_f (g1) ?_; conv => whnf) | (refine acond_f (bx) ?_; conv => whnf) | (refine acond_f (by_) ?_; conv => whnf) | (refine acond_t (b9) ?_; conv => whnf))
          refine ACall.mono tl ?_; rintro r0 H ⟨rfl, rfl⟩
          conv => whnf
          repeat (first | (refine acond_f (g1) ?_; conv => whnf) | (refine acond_f (bx) ?_; conv => whnf) | (refine acond_f (by_) ?_; conv => whnf) | (refine acond_t (b9) ?_; conv => whnf))
          refine ACall.mono tm ?_; rintro r0 H ⟨rfl, rfl⟩
          conv => whnf
          repeat (first | (refine acond_f (g1) ?_; conv => whnf) | (refine acond_f (bx) ?_; conv => whnf) | (refine acond_f (by_) ?_; conv => whnf) | (refine acond_t (b9) ?_; conv => whnf))
          refine ACall.mono htx ?_; rintro r0 H ⟨rfl, rfl⟩
          conv => whnf
          repeat (first | (refine acond_f (g1) ?_; conv => whnf) | (refine acond_f (bx) ?_; conv => whnf) | (refine acond_f (by_) ?_; conv => whnf) | (refine acond_t (b9) ?_; conv => whnf))
          refine ACall.mono hty ?_; rintro r0 H ⟨rfl, rfl⟩
          conv => whnf
          repeat (first | (refine acond_f (g1) ?_; conv => whnf) | (refine acond_f (bx) ?_; conv => whnf) | (refine acond_f (by_) ?_; conv => whnf) | (refine acond_t (b9) ?_; conv => whnf))
          refine ACall.mono hs ?_; rintro r0 H ⟨rfl, rfl⟩
          conv => whnf
          repeat (first | (refine acond_f (g1) ?_; conv => whnf) | (refine acond_f (bx) ?_; conv => whnf) | (refine acond_f (by_) ?_; conv => whnf) | (refine acond_t (b9) ?_; conv => whnf))
          refine ACall.mono htv ?_; rintro r0 H ⟨rfl, rfl⟩
          conv => whnf
          repeat (first | (refine acond_f (g1) ?_; conv => whnf) | (refine acond_f (bx) ?_; conv => whnf) | (refine acond_f (by_) ?_; conv => whnf) | (refine acond_t (b9) ?_; conv => whnf))
          refine ACall.mono hpv ?_; rintro r0 H ⟨rfl, rfl⟩
          conv => whnf
          repeat (first | (refine acond_f (g1) ?_; conv => whnf) | (refine acond_f (bx) ?_; conv => whnf) | (refine acond_f (by_) ?_; conv => whnf) | (refine acond_t (b9) ?_; conv => whnf))
          refine ACall.mono hcv ?_; rintro r0 H ⟨rfl, rfl⟩
          conv => whnf
          repeat (first | (refine acond_f (g1) ?_; conv => whnf) | (refine acond_f (bx) ?_; conv => whnf) | (refine acond_f (by_) ?_; conv => whnf) | (refine acond_t (b9) ?_; conv => whnf))
          refine ACall.mono hvv ?_; rintro r0 H ⟨rfl, rfl⟩
          conv => whnf
          repeat (first | (refine acond_f (g1) ?_; conv => whnf) | (refine acond_f (bx) ?_; conv => whnf) | (refine acond_f (by_) ?_; conv => whnf) | (refine acond_t (b9) ?_; conv => whnf))
          refine ACall.mono hfv ?_; rintro r0 H ⟨rfl, rfl⟩
          conv => whnf
          repeat (first | (refine acond_f (g1) ?_; conv => whnf) | (refine acond_f (bx) ?_; conv => whnf) | (refine acond_f (by_) ?_; conv => whnf) | (refine acond_t (b9) ?_; conv => whnf))
          refine ACall.mono hfs ?_; rintro r0 H ⟨rfl, rfl⟩
          conv => whnf
          repeat (first | (refine acond_f (g1) ?_; conv => whnf) | (refine acond_f (bx) ?_; conv => whnf) | (refine acond_f (by_) ?_; conv => whnf) | (refine acond_t (b9) ?_; conv => whnf))
          refine ACall.mono aw ?_; rintro r0 H ⟨rfl, rfl⟩
          conv => whnf
          repeat (first | (refine acond_f (g1) ?_; conv => whnf) | (refine acond_f (bx) ?_; conv => whnf) | (refine acond_f (by_) ?_; conv => whnf) | (refine acond_t (b9) ?_; conv => whnf))
          exact ⟨rfl, rfl⟩
    · obtain ⟨rfl, hp⟩ := hu.2.1 v p e rfl he0
      have b8 : (e != 0) = true := by simpa using he0
      have b9 : decide (((p : Nat) : Int) ≤ ((sb s).size : Nat)) = true := decide_eq_true (by rw [sb_size]; omega)
      have b10 : decide (((p : Nat) : Int) ≥ 0) = true := decide_eq_true (by omega)
      by_cases ex0 : ex = 0
      · have bx : (ex == 0) = true := by simpa using ex0
        by_cases txl : tx.length ≤ 8192
        · have bl : decide (((sb tx).size : Int) ≤ 8192) = true := decide_eq_true (hlen.2 txl)
          by_cases ey0 : ey = 0
          · have by_ : (ey == 0) = true := by simpa using ey0
            conv => whnf
            refine ACall.mono fl ?_; rintro r0 H ⟨rfl, rfl⟩
            conv => whnf
            repeat (first | (refine acond_f (g1) ?_; conv => whnf) | (refine acond_t (bx) ?_; conv => whnf) | (refine acond_t (bl) ?_; conv => whnf) | (refine acond_t (by_) ?_; conv => whnf) | (refine acond_f ((hinj ex0 ey0)) ?_; conv => whnf) | (refine acond_t (b8) ?_; conv => whnf) | (refine acond_t (b9) ?_; conv => whnf) | (refine acond_t (b10) ?_; conv => whnf))
            refine ACall.mono fm ?_; rintro r0 H ⟨rfl, rfl⟩
            conv => whnf
            repeat (first | (refine acond_f (g1) ?_; conv => whnf) | (refine acond_t (bx) ?_; conv => whnf) | (refine acond_t (bl) ?_; conv => whnf) | (refine acond_t (by_) ?_; conv => whnf) | (refine acond_f ((hinj ex0 ey0)) ?_; conv => whnf) | (refine acond_t (b8) ?_; conv => whnf) | (refine acond_t (b9) ?_; conv => whnf) | (refine acond_t (b10) ?_; conv => whnf))
            refine ACall.mono tl ?_; rintro r0 H ⟨rfl, rfl⟩
            conv => whnf
            repeat (first | (refine acond_f (g1) ?_; conv => whnf) | (refine acond_t (bx) ?_; conv => whnf) | (refine acond_t (bl) ?_; conv => whnf) | (refine acond_t (by_) ?_; conv => whnf) | (refine acond_f ((hinj ex0 ey0)) ?_; conv => whnf) | (refine acond_t (b8) ?_; conv => whnf) | (refine acond_t (b9) ?_; conv => whnf) | (refine acond_t (b10) ?_; conv => whnf))
            refine ACall.mono tm ?_; rintro r0 H ⟨rfl, rfl⟩
            conv => whnf
            repeat (first | (refine acond_f (g1) ?_; conv => whnf) | (refine acond_t (bx) ?_; conv => whnf) | (refine acond_t (bl) ?_; conv => whnf) | (refine acond_t (by_) ?_; conv => whnf) | (refine acond_f ((hinj ex0 ey0)) ?_; conv => whnf) | (refine acond_t (b8) ?_; conv => whnf) | (refine acond_t (b9) ?_; conv => whnf) | (refine acond_t (b10) ?_; conv => whnf))
            refine ACall.mono htx ?_; rintro r0 H ⟨rfl, rfl⟩
            conv => whnf
            repeat (first | (refine acond_f (g1) ?_; conv => whnf) | (refine acond_t (bx) ?_; conv => whnf) | (refine acond_t (bl) ?_; conv => whnf) | (refine acond_t (by_) ?_; conv => whnf) | (refine acond_f ((hinj ex0 ey0)) ?_; conv => whnf) | (refine acond_t (b8) ?_; conv => whnf) | (refine acond_t (b9) ?_; conv => whnf) | (refine acond_t (b10) ?_; conv => whnf))
            refine ACall.mono hty ?_; rintro r0 H ⟨rfl, rfl⟩
            conv => whnf
            repeat (first | (refine acond_f (g1) ?_; conv => whnf) | (refine acond_t (bx) ?_; conv => whnf) | (refine acond_t (bl) ?_; conv => whnf) | (refine acond_t (by_) ?_; conv => whnf) | (refine acond_f ((hinj ex0 ey0)) ?_; conv => whnf) | (refine acond_t (b8) ?_; conv => whnf) | (refine acond_t (b9) ?_; conv => whnf) | (refine acond_t (b10) ?_; conv => whnf))
            refine ACall.mono (hpt ex0 txl) ?_; rintro r0 H ⟨rfl, rfl⟩
            conv => whnf
            repeat (first | (refine acond_f (g1) ?_; conv => whnf) | (refine acond_t (bx) ?_; conv => whnf) | (refine acond_t (bl) ?_; conv => whnf) | (refine acond_t (by_) ?_; conv => whnf) | (refine acond_f ((hinj ex0 ey0)) ?_; conv => whnf) | (refine acond_t (b8) ?_; conv => whnf) | (refine acond_t (b9) ?_; conv => whnf) | (refine acond_t (b10) ?_; conv => whnf))
            refine ACall.mono hxx ?_; rintro r0 H ⟨rfl, rfl⟩
            conv => whnf
            repeat (first | (refine acond_f (g1) ?_; conv => whnf) | (refine acond_t (bx) ?_; conv => whnf) | (refine acond_t (bl) ?_; conv => whnf) | (refine acond_t (by_) ?_; conv => whnf) | (refine acond_f ((hinj ex0 ey0)) ?_; conv => whnf) | (refine acond_t (b8) ?_; conv => whnf) | (refine acond_t (b9) ?_; conv => whnf) | (refine acond_t (b10) ?_; conv => whnf))
            refine ACall.mono he ?_; rintro r0 H ⟨rfl, rfl⟩
            conv => whnf
            repeat (first | (refine acond_f (g1) ?_; conv => whnf) | (refine acond_t (bx) ?_; conv => whnf) | (refine acond_t (bl) ?_; conv => whnf) | (refine acond_t (by_) ?_; conv => whnf) | (refine acond_f ((hinj ex0 ey0)) ?_; conv => whnf) | (refine acond_t (b8) ?_; conv => whnf) | (refine acond_t (b9) ?_; conv => whnf) | (refine acond_t (b10) ?_; conv => whnf))
            refine ACall.mono hs ?_; rintro r0 H ⟨rfl, rfl⟩
            conv => whnf
            repeat (first | (refine acond_f (g1) ?_; conv => whnf) | (refine acond_t (bx) ?_; conv => whnf) | (refine acond_t (bl) ?_; conv => whnf) | (refine acond_t (by_) ?_; conv => whnf) | (refine acond_f ((hinj ex0 ey0)) ?_; conv => whnf) | (refine acond_t (b8) ?_; conv => whnf) | (refine acond_t (b9) ?_; conv => whnf) | (refine acond_t (b10) ?_; conv => whnf))
            refine ACall.mono aw ?_; rintro r0 H ⟨rfl, rfl⟩
            conv => whnf
            repeat (first | (refine acond_f (g1) ?_; conv => whnf) | (refine acond_t (bx) ?_; conv => whnf) | (refine acond_t (bl) ?_; conv => whnf) | (refine acond_t (by_) ?_; conv => whnf) | (refine acond_f ((hinj ex0 ey0)) ?_; conv => whnf) | (refine acond_t (b8) ?_; conv => whnf) | (refine acond_t (b9) ?_; conv => whnf) | (refine acond_t (b10) ?_; conv => whnf))
            exact ⟨rfl, rfl⟩
          · have by_ : (ey == 0) = false := by simpa using ey0
            conv => whnf
            refine ACall.mono fl ?_; rintro r0 H ⟨rfl, rfl⟩
            conv => whnf
            repeat (first | (refine acond_f (g1) ?_; conv => whnf) | (refine acond_t (bx) ?_; conv => whnf) | (refine acond_t (bl) ?_; conv => whnf) | (refine acond_f (by_) ?_; conv => whnf) | (refine acond_t (b8) ?_; conv => whnf) | (refine acond_t (b9) ?_; conv => whnf) | (refine acond_t (b10) ?_; conv => whnf))
            refine ACall.mono fm ?_; rintro r0 H ⟨rfl, rfl⟩
            conv => whnf
            repeat (first | (refine acond_f (g1) ?_; conv => whnf) | (refine acond_t (bx) ?_; conv => whnf) | (refine acond_t (bl) ?_; conv => whnf) | (refine acond_f (by_) ?_; conv => whnf) | (refine acond_t (b8) ?_; conv => whnf) | (refine acond_t (b9) ?_; conv => whnf) | (refine acond_t (b10) ?_; conv => whnf))
            refine ACall.mono tl ?_; rintro r0 H ⟨rfl, rfl⟩
            conv => whnf
            repeat (first | (refine acond_f (g1) ?_; conv => whnf) | (refine acond_t (bx) ?_; conv => whnf) | (refine acond_t (bl) ?_; conv => whnf) | (refine acond_f (by_) ?_; conv => whnf) | (refine acond_t (b8) ?_; conv => whnf) | (refine acond_t (b9) ?_; conv => whnf) | (refine acond_t (b10) ?_; conv => whnf))
            refine ACall.mono tm ?_; rintro r0 H ⟨rfl, rfl⟩
            conv => whnf
            repeat (first | (refine acond_f (g1) ?_; conv => whnf) | (refine acond_t (bx) ?_; conv => whnf) | (refine acond_t (bl) ?_; conv => whnf) | (refine acond_f (by_) ?_; conv => whnf) | (refine acond_t (b8) ?_; conv => whnf) | (refine acond_t (b9) ?_; conv => whnf) | (refine acond_t (b10) ?_; conv => whnf))
            refine ACall.mono htx ?_; rintro r0 H ⟨rfl, rfl⟩
            conv => whnf
            repeat (first | (refine acond_f (g1) ?_; conv => whnf) | (refine acond_t (bx) ?_; conv => whnf) | (refine acond_t (bl) ?_; conv => whnf) | (refine acond_f (by_) ?_; conv => whnf) | (refine acond_t (b8) ?_; conv => whnf) | (refine acond_t (b9) ?_; conv => whnf) | (refine acond_t (b10) ?_; conv => whnf))
            refine ACall.mono hty ?_; rintro r0 H ⟨rfl, rfl⟩
            conv => whnf
            repeat (first | (refine acond_f (g1) ?_; conv => whnf) | (refine acond_t (bx) ?_; conv => whnf) | (refine acond_t (bl) ?_; conv => whnf) | (refine acond_f (by_) ?_; conv => whnf) | (refine acond_t (b8) ?_; conv => whnf) | (refine acond_t (b9) ?_; conv => whnf) | (refine acond_t (b10) ?_; conv => whnf))
            refine ACall.mono (hpt ex0 txl) ?_; rintro r0 H ⟨rfl, rfl⟩
            conv => whnf
            repeat (first | (refine acond_f (g1) ?_; conv => whnf) | (refine acond_t (bx) ?_; conv => whnf) | (refine acond_t (bl) ?_; conv => whnf) | (refine acond_f (by_) ?_; conv => whnf) | (refine acond_t (b8) ?_; conv => whnf) | (refine acond_t (b9) ?_; conv => whnf) | (refine acond_t (b10) ?_; conv => whnf))
            refine ACall.mono hxx ?_; rintro r0 H ⟨rfl, rfl⟩
            conv => whnf
            repeat (first | (refine acond_f (g1) ?_; conv => whnf) | (refine acond_t (bx) ?_; conv => whnf) | (refine acond_t (bl) ?_; conv => whnf) | (refine acond_f (by_) ?_; conv => whnf) | (refine acond_t (b8) ?_; conv => whnf) | (refine acond_t (b9) ?_; conv => whnf) | (refine acond_t (b10) ?_; conv => whnf))
            refine ACall.mono hs ?_; rintro r0 H ⟨rfl, rfl⟩
            conv => whnf
            repeat (first | (refine acond_f (g1) ?_; conv => whnf) | (refine acond_t (bx) ?_; conv => whnf) | (refine acond_t (bl) ?_; conv => whnf) | (refine acond_f (by_) ?_; conv => whnf) | (refine acond_t (b8) ?_; conv => whnf) | (refine acond_t (b9) ?_; conv => whnf) | (refine acond_t (b10) ?_; conv => whnf))
            refine ACall.mono aw ?_; rintro r0 H ⟨rfl, rfl⟩
            conv => whnf
            repeat (first | (refine acond_f (g1) ?_; conv => whnf) | (refine acond_t (bx) ?_; conv => whnf) | (refine acond_t (bl) ?_; conv => whnf) | (refine acond_f (by_) ?_; conv => whnf) | (refine acond_t (b8) ?_; conv => whnf) | (refine acond_t (b9) ?_; conv => whnf) | (refine acond_t (b10) ?_; conv => whnf))
            exact ⟨rfl, rfl⟩
        · have bl : decide (((sb tx).size : Int) ≤ 8192) = false := decide_eq_false fun h => txl (hlen.1 h)
          by_cases ey0 : ey = 0
          · have by_ : (ey == 0) = true := by simpa using ey0
            conv => whnf
            refine ACall.mono fl ?_; rintro r0 H ⟨rfl, rfl⟩
            conv => whnf
            repeat (first | (refine acond_f (g1) ?_; conv => whnf) | (refine acond_t (bx) ?_; conv => whnf) | (refine acond_f (bl) ?_; conv => whnf) | (refine acond_t (by_) ?_; conv => whnf) | (refine acond_f ((hinj ex0 ey0)) ?_; conv => whnf) | (refine acond_t (b8) ?_; conv => whnf) | (refine acond_t (b9) ?_; conv => whnf) | (refine acond_t (b10) ?_; conv => whnf))
            refine ACall.mono fm ?_; rintro r0 H ⟨rfl, rfl⟩
            conv => whnf
            repeat (first | (refine acond_f (g1) ?_; conv => whnf) | (refine acond_t (bx) ?_; conv => whnf) | (refine acond_f (bl) ?_; conv => whnf) | (refine acond_t (by_) ?_; conv => whnf) | (refine acond_f ((hinj ex0 ey0)) ?_; conv => whnf) | (refine acond_t (b8) ?_; conv => whnf) | (refine acond_t (b9) ?_; conv => whnf) | (refine acond_t (b10) ?_; conv => whnf))
            refine ACall.mono tl ?_; rintro r0 H ⟨rfl, rfl⟩
            conv => whnf
            repeat (first | (refine acond_f (g1) ?_; conv => whnf) | (refine acond_t (bx) ?_; conv => whnf) | (refine acond_f (bl) ?_; conv => whnf) | (refine acond_t (by_) ?_; conv => whnf) | (refine acond_f ((hinj ex0 ey0)) ?_; conv => whnf) | (refine acond_t (b8) ?_; conv => whnf) | (refine acond_t (b9) ?_; conv => whnf) | (refine acond_t (b10) ?_; conv => whnf))
            refine ACall.mono tm ?_; rintro r0 H ⟨rfl, rfl⟩
            conv => whnf
            repeat (first | (refine acond_f (g1) ?_; conv => whnf) | (refine acond_t (bx) ?_; conv => whnf) | (refine acond_f (bl) ?_; conv => whnf) | (refine acond_t (by_) ?_; conv => whnf) | (refine acond_f ((hinj ex0 ey0)) ?_; conv => whnf) | (refine acond_t (b8) ?_; conv => whnf) | (refine acond_t (b9) ?_; conv => whnf) | (refine acond_t (b10) ?_; conv => whnf))
            refine ACall.mono htx ?_; rintro r0 H ⟨rfl, rfl⟩
            conv => whnf
            repeat (first | (refine acond_f (g1) ?_; conv => whnf) | (refine acond_t (bx) ?_; conv => whnf) | (refine acond_f (bl) ?_; conv => whnf) | (refine acond_t (by_) ?_; conv => whnf) | (refine acond_f ((hinj ex0 ey0)) ?_; conv => whnf) | (refine acond_t (b8) ?_; conv => whnf) | (refine acond_t (b9) ?_; conv => whnf) | (refine acond_t (b10) ?_; conv => whnf))
            refine ACall.mono hty ?_; rintro r0 H ⟨rfl, rfl⟩
            conv => whnf
            repeat (first | (refine acond_f (g1) ?_; conv => whnf) | (refine acond_t (bx) ?_; conv => whnf) | (refine acond_f (bl) ?_; conv => whnf) | (refine acond_t (by_) ?_; conv => whnf) | (refine acond_f ((hinj ex0 ey0)) ?_; conv => whnf) | (refine acond_t (b8) ?_; conv => whnf) | (refine acond_t (b9) ?_; conv => whnf) | (refine acond_t (b10) ?_; conv => whnf))
            refine ACall.mono he ?_; rintro r0 H ⟨rfl, rfl⟩
            conv => whnf
            repeat (first | (refine acond_f (g1) ?_; conv => whnf) | (refine acond_t (bx) ?_; conv => whnf) | (refine acond_f (bl) ?_; conv => whnf) | (refine acond_t (by_) ?_; conv => whnf) | (refine acond_f ((hinj ex0 ey0)) ?_; conv => whnf) | (refine acond_t (b8) ?_; conv => whnf) | (refine acond_t (b9) ?_; conv => whnf) | (refine acond_t (b10) ?_; conv => whnf))
            refine ACall.mono hs ?_; rintro r0 H ⟨rfl, rfl⟩
            conv => whnf
            repeat (first | (refine acond_f (g1) ?_; conv => whnf) | (refine acond_t (bx) ?_; conv => whnf) | (refine acond_f (bl) ?_; conv => whnf) | (refine acond_t (by_) ?_; conv => whnf) | (refine acond_f ((hinj ex0 ey0)) ?_; conv => whnf) | (refine acond_t (b8) ?_; conv => whnf) | (refine acond_t (b9) ?_; conv => whnf) | (refine acond_t (b10) ?_; conv => whnf))
            refine ACall.mono aw ?_; rintro r0 H ⟨rfl, rfl⟩
            conv => whnf
            repeat (first | (refine acond_f (g1) ?_; conv => whnf) | (refine acond_t (bx) ?_; conv => whnf) | (refine acond_f (bl) ?_; conv => whnf) | (refine acond_t (by_) ?_; conv => whnf) | (refine acond_f ((hinj ex0 ey0)) ?_; conv => whnf) | (refine acond_t (b8) ?_; conv => whnf) | (refine acond_t (b9) ?_; conv => whnf) | (refine acond_t (b10) ?_; conv => whnf))
            exact ⟨rfl, rfl⟩
          · have by_ : (ey == 0) = false := by simpa using ey0
            conv => whnf
            refine ACall.mono fl ?_; rintro r0 H ⟨rfl, rfl⟩
            conv => whnf
            repeat (first | (refine acond_f (g1) ?_; conv => whnf) | (refine acond_t (bx) ?_; conv => whnf) | (refine acond_f (bl) ?_; conv => whnf) | (refine acond_f (by_) ?_; conv => whnf) | (refine acond_t (b8) ?_; conv => whnf) | (refine acond_t (b9) ?_; conv => whnf) | (refine acond_t (b10) ?_; conv => whnf))
            refine ACall.mono fm ?_; rintro r0 H ⟨rfl, rfl⟩
            conv => whnf
            repeat (first | (refine acond_f (g1) ?_; conv => whnf) | (refine acond_t (bx) ?_; conv => whnf) | (refine acond_f (bl) ?_; conv => whnf) | (refine acond_f (by_) ?_; conv => whnf) | (refine acond_t (b8) ?_; conv => whnf) | (refine acond_t (b9) ?_; conv => whnf) | (refine acond_t (b10) ?_; conv => whnf))
            refine ACall.mono tl ?_; rintro r0 H ⟨rfl, rfl⟩
            conv => whnf
            repeat (first | (refine acond_f (g1) ?_; conv => whnf) | (refine acond_t (bx) ?_; conv => whnf) | (refine acond_f (bl) ?_; conv => whnf) | (refine acond_f (by_) ?_; conv => whnf) | (refine acond_t (b8) ?_; conv => whnf) | (refine acond_t (b9) ?_; conv => whnf) | (refine acond_t (b10) ?_; conv => whnf))
            refine ACall.mono tm ?_; rintro r0 H ⟨rfl, rfl⟩
            conv => whnf
            repeat (first | (refine acond_f (g1) ?_; conv => whnf) | (refine acond_t (bx) ?_; conv => whnf) | (refine acond_f (bl) ?_; conv => whnf) | (refine acond_f (by_) ?_; conv => whnf) | (refine acond_t (b8) ?_; conv => whnf) | (refine acond_t (b9) ?_; conv => whnf) | (refine acond_t (b10) ?_; conv => whnf))
            refine ACall.mono htx ?_; rintro r0 H ⟨rfl, rfl⟩
            conv => whnf
            repeat (first | (refine acond_f (g1) ?_; conv => whnf) | (refine acond_t (bx) ?_; conv => whnf) | (refine acond_f (bl) ?_; conv => whnf) | (refine acond_f (by_) ?_; conv => whnf) | (refine acond_t (b8) ?_; conv => whnf) | (refine acond_t (b9) ?_; conv => whnf) | (refine acond_t (b10) ?_; conv => whnf))
            refine ACall.mono hty ?_; rintro r0 H ⟨rfl, rfl⟩
            conv => whnf
            repeat (first | (refine acond_f (g1) ?_; conv => whnf) | (refine acond_t (bx) ?_; conv => whnf) | (refine acond_f (bl) ?_; conv => whnf) | (refine acond_f (by_) ?_; conv => whnf) | (refine acond_t (b8) ?_; conv => whnf) | (refine acond_t (b9) ?_; conv => whnf) | (refine acond_t (b10) ?_; conv => whnf))
            refine ACall.mono hs ?_; rintro r0 H ⟨rfl, rfl⟩
            conv => whnf
            repeat (first | (refine acond_f (g1) ?_; conv => whnf) | (refine acond_t (bx) ?_; conv => whnf) | (refine acond_f (bl) ?_; conv => whnf) | (refine acond_f (by_) ?_; conv => whnf) | (refine acond_t (b8) ?_; conv => whnf) | (refine acond_t (b9) ?_; conv => whnf) | (refine acond_t (b10) ?_; conv => whnf))
            refine ACall.mono aw ?_; rintro r0 H ⟨rfl, rfl⟩
            conv => whnf
            repeat (first | (refine acond_f (g1) ?_; conv => whnf) | (refine acond_t (bx) ?_; conv => whnf) | (refine acond_f (bl) ?_; conv => whnf) | (refine acond_f (by_) ?_; conv => whnf) | (refine acond_t (b8) ?_; conv => whnf) | (refine acond_t (b9) ?_; conv => whnf) | (refine acond_t (b10) ?_; conv => whnf))
            exact ⟨rfl, rfl⟩
      · have bx : (ex == 0) = false := by simpa using ex0
        by_cases ey0 : ey = 0
        · have by_ : (ey == 0) = true := by simpa using ey0
          conv => whnf
          refine ACall.mono fl ?_; rintro r0 H ⟨rfl, rfl⟩
          conv => whnf
          repeat (first | (refine acond_f (g1) ?_; conv => whnf) | (refine acond_f (bx) ?_; conv => whnf) | (refine acond_t (by_) ?_; conv => whnf) | (refine acond_t (b8) ?_; conv => whnf) | (refine acond_t (b9) ?_; conv => whnf) | (refine acond_t (b10) ?_; conv => whnf))
          refine ACall.mono fm ?_; rintro r0 H ⟨rfl, rfl⟩
          conv => whnf
          repeat (first | (refine acond_f (g1) ?_; conv => whnf) | (refine acond_f (bx) ?_; conv => whnf) | (refine acond_t (by_) ?_; conv => whnf) | (refine acond_t (b8) ?_; conv => whnf) | (refine acond_t (b9) ?_; conv => whnf) | (refine acond_t (b10) ?_; conv => whnf))
          refine ACall.mono tl ?_; rintro r0 H ⟨rfl, rfl⟩
          conv => whnf
          repeat (first | (refine acond_f (g1) ?_; conv => whnf) | (refine acond_f (bx) ?_; conv => whnf) | (refine acond_t (by_) ?_; conv => whnf) | (refine acond_t (b8) ?_; conv => whnf) | (refine acond_t (b9) ?_; conv => whnf) | (refine acond_t (b10) ?_; conv => whnf))
          refine ACall.mono tm ?_; rintro r0 H ⟨rfl, rfl⟩
          conv => whnf
          repeat (first | (refine acond_f (g1) ?_; conv => whnf) | (refine acond_f (bx) ?_; conv => whnf) | (refine acond_t (by_) ?_; conv => whnf) | (refine acond_t (b8) ?_; conv => whnf) | (refine acond_t (b9) ?_; conv => whnf) | (refine acond_t (b10) ?_; conv => whnf))
          refine ACall.mono htx ?_; rintro r0 H ⟨rfl, rfl⟩
          conv => whnf
          repeat (first | (refine acond_f (g1) ?_; conv => whnf) | (refine acond_f (bx) ?_; conv => whnf) | (refine acond_t (by_) ?_; conv => whnf) | (refine acond_t (b8) ?_; conv => whnf) | (refine acond_t (b9) ?_; conv => whnf) | (refine acond_t (b10) ?_; conv => whnf))
          refine ACall.mono hty ?_; rintro r0 H ⟨rfl, rfl⟩
          conv => whnf
          repeat (first | (refine acond_f (g1) ?_; conv => whnf) | (refine acond_f (bx) ?_; conv => whnf) | (refine acond_t (by_) ?_; conv => whnf) | (refine acond_t (b8) ?_; conv => whnf) | (refine acond_t (b9) ?_; conv => whnf) | (refine acond_t (b10) ?_; conv => whnf))
          refine ACall.mono hs ?_; rintro r0 H ⟨rfl, rfl⟩
          conv => whnf
          repeat (first | (refine acond_f (g1) ?_; conv => whnf) | (refine acond_f (bx) ?_; conv => whnf) | (refine acond_t (by_) ?_; conv => whnf) | (refine acond_t (b8) ?_; conv => whnf) | (refine acond_t (b9) ?_; conv => whnf) | (refine acond_t (b10) ?_; conv => whnf))
          refine ACall.mono aw ?_; rintro r0 H ⟨rfl, rfl⟩
          conv => whnf
          repeat (first | (refine acond_f (g1) ?_; conv => whnf) | (refine acond_f (bx) ?_; conv => whnf) | (refine acond_t (by_) ?_; conv => whnf) | (refine acond_t (b8) ?_; conv => whnf) | (refine acond_t (b9) ?_; conv => whnf) | (refine acond_t (b10) ?_; conv => whnf))
          exact ⟨rfl, rfl⟩
        · have by_ : (ey == 0) = false := by simpa using ey0
          conv => whnf
          refine ACall.mono fl ?_; rintro r0 H ⟨rfl, rfl⟩
          conv => whnf
          repeat (first | (refine acond_f (g1) ?_; conv => whnf) | (refine acond_f (bx) ?_; conv => whnf) | (refine acond_f (by_) ?_; conv => whnf) | (refine acond_t (b8) ?_; conv => whnf) | (refine acond_t (b9) ?_; conv => whnf) | (refine acond_t (b10) ?_; conv => whnf))
          refine ACall.mono fm ?_; rintro r0 H ⟨rfl, rfl⟩
          conv => whnf
          repeat (first | (refine acond_f (g1) ?_; conv => whnf) | (refine acond_f (bx) ?_; conv => whnf) | (refine acond_f (by_) ?_; conv => whnf) | (refine acond_t (b8) ?_; conv => whnf) | (refine acond_t (b9) ?_; conv => whnf) | (refine acond_t (b10) ?_; conv => whnf))
          refine ACall.mono tl ?_; rintro r0 H ⟨rfl, rfl⟩
          conv => whnf
          repeat (first | (refine acond_f (g1) ?_; conv => whnf) | (refine acond_f (bx) ?_; conv => whnf) | (refine acond_f (by_) ?_; conv => whnf) | (refine acond_t (b8) ?_; conv => whnf) | (refine acond_t (b9) ?_; conv => whnf) | (refine acond_t (b10) ?_; conv => whnf))
          refine ACall.mono tm ?_; rintro r0 H ⟨rfl, rfl⟩
          conv => whnf
          repeat (first | (refine acond_f (g1) ?_; conv => whnf) | (refine acond_f (bx) ?_; conv => whnf) | (refine acond_f (by_) ?_; conv => whnf) | (refine acond_t (b8) ?_; conv => whnf) | (refine acond_t (b9) ?_; conv => whnf) | (refine acond_t (b10) ?_; conv => whnf))
          refine ACall.mono htx ?_; rintro r0 H ⟨rfl, rfl⟩
          conv => whnf
          repeat (first | (refine acond_f (g1) ?_; conv => whnf) | (refine acond_f (bx) ?_; conv => whnf) | (refine acond_f (by_) ?_; conv => whnf) | (refine acond_t (b8) ?_; conv => whnf) | (refine acond_t (b9) ?_; conv => whnf) | (refine acond_t (b10) ?_; conv => whnf))
          refine ACall.mono hty ?_; rintro r0 H ⟨rfl, rfl⟩
          conv => whnf
          repeat (first | (refine acond_f (g1) ?_; conv => whnf) | (refine acond_f (bx) ?_; conv => whnf) | (refine acond_f (by_) ?_; conv => whnf) | (refine acond_t (b8) ?_; conv => whnf) | (refine acond_t (b9) ?_; conv => whnf) | (refine acond_t (b10) ?_; conv => whnf))
          refine ACall.mono hs ?_; rintro r0 H ⟨rfl, rfl⟩
          conv => whnf
          repeat (first | (refine acond_f (g1) ?_; conv => whnf) | (refine acond_f (bx) ?_; conv => whnf) | (refine acond_f (by_) ?_; conv => whnf) | (refine acond_t (b8) ?_; conv => whnf) | (refine acond_t (b9) ?_; conv => whnf) | (refine acond_t (b10) ?_; conv => whnf))
          refine ACall.mono aw ?_; rintro r0 H ⟨rfl, rfl⟩
          conv => whnf
          repeat (first | (refine acond_f (g1) ?_; conv => whnf) | (refine acond_f (bx) ?_; conv => whnf) | (refine acond_f (by_) ?_; conv => whnf) | (refine acond_t (b8) ?_; conv => whnf) | (refine acond_t (b9) ?_; conv => whnf) | (refine acond_t (b10) ?_; conv => whnf))
          exact ⟨rfl, rfl⟩
  · cases hfl : fewB l with
    | false =>
      rw [hfl] at fl
      conv => whnf
      refine ACall.mono fl ?_; rintro r0 H ⟨rfl, rfl⟩
      conv => whnf
      refine ACall.mono aw ?_; rintro r0 H ⟨rfl, rfl⟩
      conv => whnf
      exact ⟨rfl, rfl⟩
    | true =>
      rw [hfl] at fl
      cases hfm : fewB m with
      | false =>
        rw [hfm] at fm
        conv => whnf
        refine ACall.mono fl ?_; rintro r0 H ⟨rfl, rfl⟩
        conv => whnf
        refine ACall.mono fm ?_; rintro r0 H ⟨rfl, rfl⟩
        conv => whnf
        refine ACall.mono aw ?_; rintro r0 H ⟨rfl, rfl⟩
        conv => whnf
        exact ⟨rfl, rfl⟩
      | true =>
        rw [hfm] at fm
        have g1 : decide (((sb s).size : Int) > 1000) = true := decide_eq_true (by
          have : ¬ s.length ≤ 1000 := fun h => hgo ⟨hfl, hfm, h⟩
          rw [sb_size]; omega)
        conv => whnf
        refine ACall.mono fl ?_; rintro r0 H ⟨rfl, rfl⟩
        conv => whnf
        refine ACall.mono fm ?_; rintro r0 H ⟨rfl, rfl⟩
        conv => whnf
        repeat (first | (refine acond_t (g1) ?_; conv => whnf))
        refine ACall.mono aw ?_; rintro r0 H ⟨rfl, rfl⟩
        conv => whnf
        exact ⟨rfl, rfl⟩
theorem exprBack_top (l : List Nod) (hl : l.length ≤ maxLen) (okl : ∀ a ∈ l, a.ok) (m : List Nod) (hm : m.length ≤ maxLen) (okm : ∀ a ∈ m, a.ok) (s : ByteArray) :
    ACall Tryd.prog 5 [.rs (nods l) 0 6 l.length, .rs (nods m) 0 6 m.length, .s s] [] fun R H => R = .ret (.b true) ∧ H = [] :=
  exprBack_spec l m (maxLen_lt hl) (maxLen_lt hm) okl okm s.data.toList
end Go.AK
namespace Go.AK
open Go Go.RowKit Go.Proofs
set_option linter.unusedVariables false
set_option maxRecDepth 100000
/-! Arrays among a law's arguments. -/
theorem okWide_array {P : Program} {w : World} {r : Reach} {base : Nat} {t : TypeId} {v : Value} {n : Nat} {e : TypeId} (ht : P.underlying t = some (.array n e)) (h : Value.okWide P w r base t v) : ∃ cs, v = .agg cs ∧ cs.size = P.cellsOf t := by
  simp only [Value.okWide, ht] at h
  obtain ⟨cs, h1, h2, _⟩ := h
  exact ⟨cs, h1, h2⟩
def rowAV (l : List Nod) : AV := .rs (nods l) 0 6 l.length
theorem okT_n3 : ∀ fuel, okT T fuel 50 = true
  | 0 => rfl
  | 1 => rfl
  | 2 => rfl
  | 3 => rfl
  | n + 4 => rfl
theorem okT_b2 : ∀ fuel, okT T fuel 51 = true
  | 0 => rfl
  | 1 => rfl
  | n + 2 => rfl
theorem okT_b3 : ∀ fuel, okT T fuel 52 = true
  | 0 => rfl
  | 1 => rfl
  | n + 2 => rfl
theorem okT_i2 : ∀ fuel, okT T fuel 47 = true
  | 0 => rfl
  | 1 => rfl
  | n + 2 => rfl
def rowOK (l : List Nod) : Prop := l.length ≤ maxLen ∧ ∀ a ∈ l, a.ok
theorem WT_n3 : ∀ {fuel : Nat} {xs : List AV}, WT T fuel 50 xs → ∃ F : List Nod × List Nod × List Nod, xs = [rowAV F.1, rowAV F.2.1, rowAV F.2.2] ∧ rowOK F.1 ∧ rowOK F.2.1 ∧ rowOK F.2.2
  | 0, _, h => h.elim
  | n + 1, xs, h => by
    obtain ⟨y0, z0, rfl, h0, h⟩ := (show WTs (WT T n) [33, 33, 33] xs from h)
    obtain ⟨y1, z1, rfl, h1, h⟩ := h
    obtain ⟨y2, z2, rfl, h2, h⟩ := h
    obtain rfl := (show z2 = [] from h)
    obtain ⟨l0, rfl, a0⟩ := WT_nods h0
    obtain ⟨l1, rfl, a1⟩ := WT_nods h1
    obtain ⟨l2, rfl, a2⟩ := WT_nods h2
    exact ⟨(l0, l1, l2), rfl, a0, a1, a2⟩
theorem WT_b1 : ∀ {n : Nat} {ys : List AV}, WT T n 4 ys → ∃ b, ys = [.b b]
  | 0, _, h => h.elim
  | n + 1, ys, h => h
theorem WT_b2 : ∀ {fuel : Nat} {xs : List AV}, WT T fuel 51 xs → ∃ F : Bool × Bool, xs = [.b F.1, .b F.2] ∧ True
  | 0, _, h => h.elim
  | n + 1, xs, h => by
    obtain ⟨y0, z0, rfl, h0, h⟩ := (show WTs (WT T n) [4, 4] xs from h)
    obtain ⟨y1, z1, rfl, h1, h⟩ := h
    obtain rfl := (show z1 = [] from h)
    obtain ⟨a, rfl⟩ := WT_b1 h0
    obtain ⟨b, rfl⟩ := WT_b1 h1
    exact ⟨(a, b), rfl, trivial⟩
theorem WT_b3 : ∀ {fuel : Nat} {xs : List AV}, WT T fuel 52 xs → ∃ F : Bool × Bool × Bool, xs = [.b F.1, .b F.2.1, .b F.2.2] ∧ True
  | 0, _, h => h.elim
  | n + 1, xs, h => by
    obtain ⟨y0, z0, rfl, h0, h⟩ := (show WTs (WT T n) [4, 4, 4] xs from h)
    obtain ⟨y1, z1, rfl, h1, h⟩ := h
    obtain ⟨y2, z2, rfl, h2, h⟩ := h
    obtain rfl := (show z2 = [] from h)
    obtain ⟨a, rfl⟩ := WT_b1 h0
    obtain ⟨b, rfl⟩ := WT_b1 h1
    obtain ⟨c, rfl⟩ := WT_b1 h2
    exact ⟨(a, b, c), rfl, trivial⟩
theorem WT_j1 : ∀ {n : Nat} {ys : List AV}, WT T n 3 ys → ∃ m, ys = [.i .i64 m] ∧ (Lit.int .i64 m).wf = true
  | 0, _, h => h.elim
  | n + 1, ys, h => h
theorem WT_i2 : ∀ {fuel : Nat} {xs : List AV}, WT T fuel 47 xs → ∃ F : Int × Int, xs = [.i .i64 F.1, .i .i64 F.2] ∧ (-9223372036854775808 ≤ F.1 ∧ F.1 ≤ 9223372036854775807) ∧ (-9223372036854775808 ≤ F.2 ∧ F.2 ≤ 9223372036854775807)
  | 0, _, h => h.elim
  | n + 1, xs, h => by
    obtain ⟨y0, z0, rfl, h0, h⟩ := (show WTs (WT T n) [3, 3] xs from h)
    obtain ⟨y1, z1, rfl, h1, h⟩ := h
    obtain rfl := (show z1 = [] from h)
    obtain ⟨a, rfl, ha⟩ := WT_j1 h0
    obtain ⟨b, rfl, hb⟩ := WT_j1 h1
    exact ⟨(a, b), rfl, i64_in ha, i64_in hb⟩
end Go.AK
