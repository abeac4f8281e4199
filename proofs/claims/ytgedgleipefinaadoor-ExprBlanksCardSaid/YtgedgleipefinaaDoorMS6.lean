/- Texts SEBack, SEDeepP, SEBindsP, SEBlanksP, SETopA: an evaluator of the model's code, proved sound, and what the program's functions do, for all inputs. -/
import Derived.Test.YtgedgleipefinaaDoorMS5
set_option linter.unusedVariables false
set_option linter.unusedSimpArgs false
set_option linter.unusedSectionVars false
namespace Go.AK
open Go Go.RowKit Go.Proofs
set_option linter.unusedVariables false
set_option maxRecDepth 100000
theorem GT.checkE {x : Ex} (h : GT x) (hd : x.depth ≤ 64) : x.checkE = 0 := by
  unfold Ex.checkE
  rw [h.ne, h.treeE, if_neg (by decide), if_neg (by omega)]
theorem wt_ful {x : Ex} (h : GT x) : x.wt ≤ 41 * x.ful 0 := by
  induction h with
  | and l r hl hr il ir =>
    have e : (Ex.nd 2 [] [] 0 l r).ful 0 = tlen (l.tk 2 ++ wAnd :: r.tk 3) := rfl
    have := ful_mono l (show (0 : Int) ≤ 2 by decide)
    have := ful_mono r (show (0 : Int) ≤ 3 by decide)
    simp only [Ex.ful] at *
    rw [e, tlen_append, tlen_cons, Ex.wt]
    simp only [wAnd, List.length_cons, List.length_nil]; omega
  | or l r hl hr il ir =>
    have e : (Ex.nd 3 [] [] 0 l r).ful 0 = tlen (l.tk 1 ++ wOr :: r.tk 2) := rfl
    have := ful_mono l (show (0 : Int) ≤ 1 by decide)
    have := ful_mono r (show (0 : Int) ≤ 2 by decide)
    simp only [Ex.ful] at *
    rw [e, tlen_append, tlen_cons, Ex.wt]
    simp only [wOr, List.length_cons, List.length_nil]; omega
  | not l hl ih =>
    have e : (Ex.nd 1 [] [] 0 l .nil).ful 0 = tlen (wNot :: l.tk 3) := rfl
    have := ful_mono l (show (0 : Int) ≤ 3 by decide)
    simp only [Ex.ful] at *
    rw [e, tlen_cons, Ex.wt]
    simp only [wNot, Ex.wt, List.length_cons, List.length_nil]; omega
  | cmp w o n hw ho h0 =>
    have e : (Ex.nd 4 w o n .nil .nil).ful 0 = tlen [w, o, Lib.itoa n] := rfl
    have := List.length_pos_iff.2 (num_letters hw).1
    rw [e, tlen_cons, tlen_cons, tlen_cons, Ex.wt]
    simp only [Ex.wt]; omega
  | flag w hw =>
    have e : (Ex.nd 5 w [] 0 .nil .nil).ful 0 = tlen [w] := rfl
    have := List.length_pos_iff.2 (flag_letters hw).1
    rw [e, tlen_cons, Ex.wt]
    simp only [Ex.wt, List.length_nil]; omega
  | tru => decide
  | fls => decide
theorem parseE_txt {x : Ex} (h : GT x) (hn : x.okN) (hd : x.depth ≤ 64) (hl : (x.txt 0).length ≤ 8192) : parseE (x.txt 0) = (x, 0, 0) := by
  rw [parseE_of hl (parse_txt h hn hd)]
  show (if ([] : Str) ≠ [] then (Ex.nil, (x.txt 0).length, (11 : Int)) else if 64 < x.depth then (.nil, 0, 12) else (x, 0, 0)) = _
  rw [if_neg (by simp), if_neg (by omega)]
theorem txt_inj {x y : Ex} (hx : GT x) (nx : x.okN) (dx : x.depth ≤ 64) (hy : GT y) (ny : y.okN) (dy : y.depth ≤ 64) (h : x.txt 0 = y.txt 0) : x = y := by
  have h1 := parse_txt hx nx dx
  have h2 := parse_txt hy ny dy
  rw [h] at h1
  obtain ⟨f, a, b⟩ := h1.two h2
  rw [a] at b
  simp only [PR.ok.injEq] at b
  exact b.1
theorem exprBack_spec (l m : List Nod) (hl : l.length ≤ 9223372036854775807) (hm : m.length ≤ 9223372036854775807) (okl : ∀ a ∈ l, a.ok) (okm : ∀ a ∈ m, a.ok) (s : Str) :
    ACall Tryd.prog 5 [.rs (nods l) 0 6 l.length, .rs (nods m) 0 6 m.length, .s (sb s)] [] fun R H => R = .ret (.b true) ∧ H = [] := by
  have aw := awake_spec
  have fl := few_spec l hl
  have fm := few_spec m hm
  refine ACall.enter tok false Tryd.func5 rfl rfl rfl (AW_sound (ip := false) tok _ _ _ _ ?_)
  by_cases hgo : fewB l = true ∧ fewB m = true ∧ s.length ≤ 1000
  · obtain ⟨hfl, hfm, hsl⟩ := hgo
    rw [hfl] at fl
    rw [hfm] at fm
    have tl := tree_mk_spec l (by have := (fewB_of hfl).1; omega)
    have tm := tree_mk_spec m (by have := (fewB_of hfm).1; omega)
    have ox := treeOf_ok hfl okl
    have oy := treeOf_ok hfm okm
    generalize treeOf l = x at tl ox
    generalize treeOf m = y at tm oy
    have htx := Text_spec x (by have := ox.dep; omega) ox.num (by have := ox.wt; omega)
    have hty := Text_spec y (by have := oy.dep; omega) oy.num (by have := oy.wt; omega)
    have he := equal_spec x y
    have hxx := equal_spec x x
    rw [show x.same x = true from Ex.same_iff.2 rfl] at hxx
    have hs := parse_spec s (by omega)
    have hfs := full_spec s (by omega)
    have hpt : x.checkE = 0 → x.textE.length ≤ 8192 → ACall Tryd.prog 10 [.s (sb x.textE)] [] fun R H => R = .ret (.tup [x.av, .i .i64 0, .i .i64 0]) ∧ H = [] := by
      intro h h2
      obtain ⟨h3, h4, h5⟩ := check_ok h
      have et : x.textE = x.txt 0 := by unfold Ex.textE; rw [if_pos h]
      have hp := parse_spec x.textE (by omega)
      rw [et] at h2 hp ⊢
      rw [parseE_txt (GT_of x h5 h3) ox.num h4 h2] at hp
      exact hp
    have hinj : x.checkE = 0 → y.checkE = 0 → ((x.textE == y.textE) != x.same y) = false := by
      intro h h2
      obtain ⟨h3, h4, h5⟩ := check_ok h
      obtain ⟨k3, k4, k5⟩ := check_ok h2
      have et : x.textE = x.txt 0 := by unfold Ex.textE; rw [if_pos h]
      have et2 : y.textE = y.txt 0 := by unfold Ex.textE; rw [if_pos h2]
      rw [et, et2]
      by_cases hxy : x = y
      · subst hxy
        rw [show x.same x = true from Ex.same_iff.2 rfl]; simp
      · have h1 : x.same y = false := by
          cases h : x.same y with
          | false => rfl
          | true => exact absurd (Ex.same_iff.1 h) hxy
        have h2 : (x.txt 0 == y.txt 0) = false := by
          rw [beq_eq_false_iff_ne]
          exact fun e => hxy (txt_inj (GT_of x h5 h3) ox.num h4 (GT_of y k5 k3) oy.num k4 e)
        rw [h1, h2]; rfl
    have hlen : ((sb x.textE).size : Int) ≤ 8192 ↔ x.textE.length ≤ 8192 := by rw [sb_size]; omega
    generalize x.textE = tx at htx hpt hinj hlen
    generalize y.textE = ty at hty hinj
    generalize x.checkE = ex at htx hpt hinj
    generalize y.checkE = ey at hty hinj
    generalize hsm : x.same y = sm at he hinj
    obtain ⟨v, p, e, hv⟩ : ∃ v p e, parseE s = (v, p, e) := ⟨_, _, _, rfl⟩
    have hu := parse_use s
    rw [hv] at hs hu
    have g0 : ¬ ((sb s).size : Int) > 1000 := by rw [sb_size]; omega
    have g1 := decide_eq_false g0
    by_cases he0 : e = 0
    · subst he0
      have hp0 := hu.2.2 v p rfl
      subst hp0
      obtain ⟨gv, nv, dv, fv⟩ := hu.1 v rfl
      have htv := Text_spec v (by omega) nv (by have := wt_ful gv; have := fullS_le s; omega)
      have hcv := check_spec v (by omega)
      have hvv := equal_spec v v
      rw [show v.same v = true from Ex.same_iff.2 rfl] at hvv
      have c0 := gv.checkE dv
      have et : v.textE = v.txt 0 := by unfold Ex.textE; rw [if_pos c0]
      have ⟨q1, q2⟩ := txt_ful gv 0
      have hfl8 := fullS_le s
      have hpv := parse_spec (v.txt 0) (by omega)
      rw [parseE_txt gv nv dv (by omega)] at hpv
      have hfv := full_spec (v.txt 0) (by omega)
      have b9 : decide (((fullS (v.txt 0) : Nat) : Int) ≤ ((fullS s : Nat) : Int)) = true := decide_eq_true (by omega)
      rw [c0, et] at htv
      rw [c0] at hcv
      by_cases ex0 : ex = 0
      · have bx : (ex == 0) = true := by simpa using ex0
        by_cases txl : tx.length ≤ 8192
        · have bl : decide (((sb tx).size : Int) ≤ 8192) = true := decide_eq_true (hlen.2 txl)
          by_cases ey0 : ey = 0
          · have by_ : (ey == 0) = true := by simpa using ey0
            conv => whnf
            refine ACall.mono fl ?_; rintro r0 H ⟨rfl, rfl⟩
            conv => whnf
            repeat (first | (refine acond_f (g1) ?_; conv => whnf) | (refine acond_t (bx) ?_; conv => whnf) | (refine acond_t (bl) ?_; conv => whnf) | (refine acond_t (by_) ?_; conv => whnf) | (refine acond_f ((hinj ex0 ey0)) ?_; conv => whnf) | (refine acond_t (b9) ?_; conv => whnf))
            refine ACall.mono fm ?_; rintro r0 H ⟨rfl, rfl⟩
            conv => whnf
            repeat (first | (refine acond_f (g1) ?_; conv => whnf) | (refine acond_t (bx) ?_; conv => whnf) | (refine acond_t (bl) ?_; conv => whnf) | (refine acond_t (by_) ?_; conv => whnf) | (refine acond_f ((hinj ex0 ey0)) ?_; conv => whnf) | (refine acond_t (b9) ?_; conv => whnf))
            refine ACall.mono tl ?_; rintro r0 H ⟨rfl, rfl⟩
            conv => whnf
            repeat (first | (refine acond_f (g1) ?_; conv => whnf) | (refine acond_t (bx) ?_; conv => whnf) | (refine acond_t (bl) ?_; conv => whnf) | (refine acond_t (by_) ?_; conv => whnf) | (refine acond_f ((hinj ex0 ey0)) ?_; conv => whnf) | (refine acond_t (b9) ?_; conv => whnf))
            refine ACall.mono tm ?_; rintro r0 H ⟨rfl, rfl⟩
            conv => whnf
            repeat (first | (refine acond_f (g1) ?_; conv => whnf) | (refine acond_t (bx) ?_; conv => whnf) | (refine acond_t (bl) ?_; conv => whnf) | (refine acond_t (by_) ?_; conv => whnf) | (refine acond_f ((hinj ex0 ey0)) ?_; conv => whnf) | (refine acond_t (b9) ?_; conv => whnf))
            refine ACall.mono htx ?_; rintro r0 H ⟨rfl, rfl⟩
            conv => whnf
            repeat (first | (refine acond_f (g1) ?_; conv => whnf) | (refine acond_t (bx) ?_; conv => whnf) | (refine acond_t (bl) ?_; conv => whnf) | (refine acond_t (by_) ?_; conv => whnf) | (refine acond_f ((hinj ex0 ey0)) ?_; conv => whnf) | (refine acond_t (b9) ?_; conv => whnf))
            refine ACall.mono hty ?_; rintro r0 H ⟨rfl, rfl⟩
            conv => whnf
            repeat (first | (refine acond_f (g1) ?_; conv => whnf) | (refine acond_t (bx) ?_; conv => whnf) | (refine acond_t (bl) ?_; conv => whnf) | (refine acond_t (by_) ?_; conv => whnf) | (refine acond_f ((hinj ex0 ey0)) ?_; conv => whnf) | (refine acond_t (b9) ?_; conv => whnf))
            refine ACall.mono (hpt ex0 txl) ?_; rintro r0 H ⟨rfl, rfl⟩
            conv => whnf
            repeat (first | (refine acond_f (g1) ?_; conv => whnf) | (refine acond_t (bx) ?_; conv => whnf) | (refine acond_t (bl) ?_; conv => whnf) | (refine acond_t (by_) ?_; conv => whnf) | (refine acond_f ((hinj ex0 ey0)) ?_; conv => whnf) | (refine acond_t (b9) ?_; conv => whnf))
            refine ACall.mono hxx ?_; rintro r0 H ⟨rfl, rfl⟩
            conv => whnf
            repeat (first | (refine acond_f (g1) ?_; conv => whnf) | (refine acond_t (bx) ?_; conv => whnf) | (refine acond_t (bl) ?_; conv => whnf) | (refine acond_t (by_) ?_; conv => whnf) | (refine acond_f ((hinj ex0 ey0)) ?_; conv => whnf) | (refine acond_t (b9) ?_; conv => whnf))
            refine ACall.mono he ?_; rintro r0 H ⟨rfl, rfl⟩
            conv => whnf
            repeat (first | (refine acond_f (g1) ?_; conv => whnf) | (refine acond_t (bx) ?_; conv => whnf) | (refine acond_t (bl) ?_; conv => whnf) | (refine acond_t (by_) ?_; conv => whnf) | (refine acond_f ((hinj ex0 ey0)) ?_; conv => whnf) | (refine acond_t (b9) ?_; conv => whnf))
            refine ACall.mono hs ?_; rintro r0 H ⟨rfl, rfl⟩
            conv => whnf
            repeat (first | (refine acond_f (g1) ?_; conv => whnf) | (refine acond_t (bx) ?_; conv => whnf) | (refine acond_t (bl) ?_; conv => whnf) | (refine acond_t (by_) ?_; conv => whnf) | (refine acond_f ((hinj ex0 ey0)) ?_; conv => whnf) | (refine acond_t (b9) ?_; conv => whnf))
            refine ACall.mono htv ?_; rintro r0 H ⟨rfl, rfl⟩
            conv => whnf
            repeat (first | (refine acond_f (g1) ?_; conv => whnf) | (refine acond_t (bx) ?_; conv => whnf) | (refine acond_t (bl) ?_; conv => whnf) | (refine acond_t (by_) ?_; conv => whnf) | (refine acond_f ((hinj ex0 ey0)) ?_; conv => whnf) | (refine acond_t (b9) ?_; conv => whnf))
            refine ACall.mono hpv ?_; rintro r0 H ⟨rfl, rfl⟩
            conv => whnf
            repeat (first | (refine acond_f (g1) ?_; conv => whnf) | (refine acond_t (bx) ?_; conv => whnf) | (refine acond_t (bl) ?_; conv => whnf) | (refine acond_t (by_) ?_; conv => whnf) | (refine acond_f ((hinj ex0 ey0)) ?_; conv => whnf) | (refine acond_t (b9) ?_; conv => whnf))
            refine ACall.mono hcv ?_; rintro r0 H ⟨rfl, rfl⟩
            conv => whnf
            repeat (first | (refine acond_f (g1) ?_; conv => whnf) | (refine acond_t (bx) ?_; conv => whnf) | (refine acond_t (bl) ?_; conv => whnf) | (refine acond_t (by_) ?_; conv => whnf) | (refine acond_f ((hinj ex0 ey0)) ?_; conv => whnf) | (refine acond_t (b9) ?_; conv => whnf))
            refine ACall.mono hvv ?_; rintro r0 H ⟨rfl, rfl⟩
            conv => whnf
            repeat (first | (refine acond_f (g1) ?_; conv => whnf) | (refine acond_t (bx) ?_; conv => whnf) | (refine acond_t (bl) ?_; conv => whnf) | (refine acond_t (by_) ?_; conv => whnf) | (refine acond_f ((hinj ex0 ey0)) ?_; conv => whnf) | (refine acond_t (b9) ?_; conv => whnf))
            refine ACall.mono hfv ?_; rintro r0 H ⟨rfl, rfl⟩
            conv => whnf
            repeat (first | (refine acond_f (g1) ?_; conv => whnf) | (refine acond_t (bx) ?_; conv => whnf) | (refine acond_t (bl) ?_; conv => whnf) | (refine acond_t (by_) ?_; conv => whnf) | (refine acond_f ((hinj ex0 ey0)) ?_; conv => whnf) | (refine acond_t (b9) ?_; conv => whnf))
            refine ACall.mono hfs ?_; rintro r0 H ⟨rfl, rfl⟩
            conv => whnf
            repeat (first | (refine acond_f (g1) ?_; conv => whnf) | (refine acond_t (bx) ?_; conv => whnf) | (refine acond_t (bl) ?_; conv => whnf) | (refine acond_t (by_) ?_; conv => whnf) | (refine acond_f ((hinj ex0 ey0)) ?_; conv => whnf) | (refine acond_t (b9) ?_; conv => whnf))
            refine ACall.mono aw ?_; rintro r0 H ⟨rfl, rfl⟩
            conv => whnf
            repeat (first | (refine acond_f (g1) ?_; conv => whnf) | (refine acond_t (bx) ?_; conv => whnf) | (refine acond_t (bl) ?_; conv => whnf) | (refine acond_t (by_) ?_; conv => whnf) | (refine acond_f ((hinj ex0 ey0)) ?_; conv => whnf) | (refine acond_t (b9) ?_; conv => whnf))
            exact ⟨rfl, rfl⟩
          · have by_ : (ey == 0) = false := by simpa using ey0
            conv => whnf
            refine ACall.mono fl ?_; rintro r0 H ⟨rfl, rfl⟩
            conv => whnf
            repeat (first | (refine acond_f (g1) ?_; conv => whnf) | (refine acond_t (bx) ?_; conv => whnf) | (refine acond_t (bl) ?_; conv => whnf) | (refine acond_f (by_) ?_; conv => whnf) | (refine acond_t (b9) ?_; conv => whnf))
            refine ACall.mono fm ?_; rintro r0 H ⟨rfl, rfl⟩
            conv => whnf
            repeat (first | (refine acond_f (g1) ?_; conv => whnf) | (refine acond_t (bx) ?_; conv => whnf) | (refine acond_t (bl) ?_; conv => whnf) | (refine acond_f (by_) ?_; conv => whnf) | (refine acond_t (b9) ?_; conv => whnf))
            refine ACall.mono tl ?_; rintro r0 H ⟨rfl, rfl⟩
            conv => whnf
            repeat (first | (refine acond_f (g1) ?_; conv => whnf) | (refine acond_t (bx) ?_; conv => whnf) | (refine acond_t (bl) ?_; conv => whnf) | (refine acond_f (by_) ?_; conv => whnf) | (refine acond_t (b9) ?_; conv => whnf))
            refine ACall.mono tm ?_; rintro r0 H ⟨rfl, rfl⟩
            conv => whnf
            repeat (first | (refine acond_f (g1) ?_; conv => whnf) | (refine acond_t (bx) ?_; conv => whnf) | (refine acond_t (bl) ?_; conv => whnf) | (refine acond_f (by_) ?_; conv => whnf) | (refine acond_t (b9) ?_; conv => whnf))
            refine ACall.mono htx ?_; rintro r0 H ⟨rfl, rfl⟩
            conv => whnf
            repeat (first | (refine acond_f (g1) ?_; conv => whnf) | (refine acond_t (bx) ?_; conv => whnf) | (refine acond_t (bl) ?_; conv => whnf) | (refine acond_f (by_) ?_; conv => whnf) | (refine acond_t (b9) ?_; conv => whnf))
            refine ACall.mono hty ?_; rintro r0 H ⟨rfl, rfl⟩
            conv => whnf
            repeat (first | (refine acond_f (g1) ?_; conv => whnf) | (refine acond_t (bx) ?_; conv => whnf) | (refine acond_t (bl) ?_; conv => whnf) | (refine acond_f (by_) ?_; conv => whnf) | (refine acond_t (b9) ?_; conv => whnf))
            refine ACall.mono (hpt ex0 txl) ?_; rintro r0 H ⟨rfl, rfl⟩
            conv => whnf
            repeat (first | (refine acond_f (g1) ?_; conv => whnf) | (refine acond_t (bx) ?_; conv => whnf) | (refine acond_t (bl) ?_; conv => whnf) | (refine acond_f (by_) ?_; conv => whnf) | (refine acond_t (b9) ?_; conv => whnf))
            refine ACall.mono hxx ?_; rintro r0 H ⟨rfl, rfl⟩
            conv => whnf
            repeat (first | (refine acond_f (g1) ?_; conv => whnf) | (refine acond_t (bx) ?_; conv => whnf) | (refine acond_t (bl) ?_; conv => whnf) | (refine acond_f (by_) ?_; conv => whnf) | (refine acond_t (b9) ?_; conv => whnf))
            refine ACall.mono hs ?_; rintro r0 H ⟨rfl, rfl⟩
            conv => whnf
            repeat (first | (refine acond_f (g1) ?_; conv => whnf) | (refine acond_t (bx) ?_; conv => whnf) | (refine acond_t (bl) ?_; conv => whnf) | (refine acond_f (by_) ?_; conv => whnf) | (refine acond_t (b9) ?_; conv => whnf))
            refine ACall.mono htv ?_; rintro r0 H ⟨rfl, rfl⟩
            conv => whnf
            repeat (first | (refine acond_f (g1) ?_; conv => whnf) | (refine acond_t (bx) ?_; conv => whnf) | (refine acond_t (bl) ?_; conv => whnf) | (refine acond_f (by_) ?_; conv => whnf) | (refine acond_t (b9) ?_; conv => whnf))
            refine ACall.mono hpv ?_; rintro r0 H ⟨rfl, rfl⟩
            conv => whnf
            repeat (first | (refine acond_f (g1) ?_; conv => whnf) | (refine acond_t (bx) ?_; conv => whnf) | (refine acond_t (bl) ?_; conv => whnf) | (refine acond_f (by_) ?_; conv => whnf) | (refine acond_t (b9) ?_; conv => whnf))
            refine ACall.mono hcv ?_; rintro r0 H ⟨rfl, rfl⟩
            conv => whnf
            repeat (first | (refine acond_f (g1) ?_; conv => whnf) | (refine acond_t (bx) ?_; conv => whnf) | (refine acond_t (bl) ?_; conv => whnf) | (refine acond_f (by_) ?_; conv => whnf) | (refine acond_t (b9) ?_; conv => whnf))
            refine ACall.mono hvv ?_; rintro r0 H ⟨rfl, rfl⟩
            conv => whnf
            repeat (first | (refine acond_f (g1) ?_; conv => whnf) | (refine acond_t (bx) ?_; conv => whnf) | (refine acond_t (bl) ?_; conv => whnf) | (refine acond_f (by_) ?_; conv => whnf) | (refine acond_t (b9) ?_; conv => whnf))
            refine ACall.mono hfv ?_; rintro r0 H ⟨rfl, rfl⟩
            conv => whnf
            repeat (first | (refine acond_f (g1) ?_; conv => whnf) | (refine acond_t (bx) ?_; conv => whnf) | (refine acond_t (bl) ?_; conv => whnf) | (refine acond_f (by_) ?_; conv => whnf) | (refine acond_t (b9) ?_; conv => whnf))
            refine ACall.mono hfs ?_; rintro r0 H ⟨rfl, rfl⟩
            conv => whnf
            repeat (first | (refine acond_f (g1) ?_; conv => whnf) | (refine acond_t (bx) ?_; conv => whnf) | (refine acond_t (bl) ?_; conv => whnf) | (refine acond_f (by_) ?_; conv => whnf) | (refine acond_t (b9) ?_; conv => whnf))
            refine ACall.mono aw ?_; rintro r0 H ⟨rfl, rfl⟩
            conv => whnf
            repeat (first | (refine acond_f (g1) ?_; conv => whnf) | (refine acond_t (bx) ?_; conv => whnf) | (refine acond_t (bl) ?_; conv => whnf) | (refine acond_f (by_) ?_; conv => whnf) | (refine acond_t (b9) ?_; conv => whnf))
            exact ⟨rfl, rfl⟩
        · have bl : decide (((sb tx).size : Int) ≤ 8192) = false := decide_eq_false fun h => txl (hlen.1 h)
          by_cases ey0 : ey = 0
          · have by_ : (ey == 0) = true := by simpa using ey0
            conv => whnf
            refine ACall.mono fl ?_; rintro r0 H ⟨rfl, rfl⟩
            conv => whnf
            repeat (first | (refine acond_f (g1) ?_; conv => whnf) | (refine acond_t (bx) ?_; conv => whnf) | (refine acond_f (bl) ?_; conv => whnf) | (refine acond_t (by_) ?_; conv => whnf) | (refine acond_f ((hinj ex0 ey0)) ?_; conv => whnf) | (refine acond_t (b9) ?_; conv => whnf))
            refine ACall.mono fm ?_; rintro r0 H ⟨rfl, rfl⟩
            conv => whnf
            repeat (first | (refine acond_f (g1) ?_; conv => whnf) | (refine acond_t (bx) ?_; conv => whnf) | (refine acond_f (bl) ?_; conv => whnf) | (refine acond_t (by_) ?_; conv => whnf) | (refine acond_f ((hinj ex0 ey0)) ?_; conv => whnf) | (refine acond_t (b9) ?_; conv => whnf))
            refine ACall.mono tl ?_; rintro r0 H ⟨rfl, rfl⟩
            conv => whnf
            repeat (first | (refine acond_f (g1) ?_; conv => whnf) | (refine acond_t (bx) ?_; conv => whnf) | (refine acond_f (bl) ?_; conv => whnf) | (refine acond_t (by_) ?_; conv => whnf) | (refine acond_f ((hinj ex0 ey0)) ?_; conv => whnf) | (refine acond_t (b9) ?_; conv => whnf))
            refine ACall.mono tm ?_; rintro r0 H ⟨rfl, rfl⟩
            conv => whnf
            repeat (first | (refine acond_f (g1) ?_; conv => whnf) | (refine acond_t (bx) ?_; conv => whnf) | (refine acond_f (bl) ?_; conv => whnf) | (refine acond_t (by_) ?_; conv => whnf) | (refine acond_f ((hinj ex0 ey0)) ?_; conv => whnf) | (refine acond_t (b9) ?_; conv => whnf))
            refine ACall.mono htx ?_; rintro r0 H ⟨rfl, rfl⟩
            conv => whnf
            repeat (first | (refine acond_f (g1) ?_; conv => whnf) | (refine acond_t (bx) ?_; conv => whnf) | (refine acond_f (bl) ?_; conv => whnf) | (refine acond_t (by_) ?_; conv => whnf) | (refine acond_f ((hinj ex0 ey0)) ?_; conv => whnf) | (refine acond_t (b9) ?_; conv => whnf))
            refine ACall.mono hty ?_; rintro r0 H ⟨rfl, rfl⟩
            conv => whnf
            repeat (first | (refine acond_f (g1) ?_; conv => whnf) | (refine acond_t (bx) ?_; conv => whnf) | (refine acond_f (bl) ?_; conv => whnf) | (refine acond_t (by_) ?_; conv => whnf) | (refine acond_f ((hinj ex0 ey0)) ?_; conv => whnf) | (refine acond_t (b9) ?_; conv => whnf))
            refine ACall.mono he ?_; rintro r0 H ⟨rfl, rfl⟩
            conv => whnf
            repeat (first | (refine acond_f (g1) ?_; conv => whnf) | (refine acond_t (bx) ?_; conv => whnf) | (refine acond_f (bl) ?_; conv => whnf) | (refine acond_t (by_) ?_; conv => whnf) | (refine acond_f ((hinj ex0 ey0)) ?_; conv => whnf) | (refine acond_t (b9) ?_; conv => whnf))
            refine ACall.mono hs ?_; rintro r0 H ⟨rfl, rfl⟩
            conv => whnf
            repeat (first | (refine acond_f (g1) ?_; conv => whnf) | (refine acond_t (bx) ?_; conv => whnf) | (refine acond_f (bl) ?_; conv => whnf) | (refine acond_t (by_) ?_; conv => whnf) | (refine acond_f ((hinj ex0 ey0)) ?_; conv => whnf) | (refine acond_t (b9) ?_; conv => whnf))
            refine ACall.mono htv ?_; rintro r0 H ⟨rfl, rfl⟩
            conv => whnf
            repeat (first | (refine acond_f (g1) ?_; conv => whnf) | (refine acond_t (bx) ?_; conv => whnf) | (refine acond_f (bl) ?_; conv => whnf) | (refine acond_t (by_) ?_; conv => whnf) | (refine acond_f ((hinj ex0 ey0)) ?_; conv => whnf) | (refine acond_t (b9) ?_; conv => whnf))
            refine ACall.mono hpv ?_; rintro r0 H ⟨rfl, rfl⟩
            conv => whnf
            repeat (first | (refine acond_f (g1) ?_; conv => whnf) | (refine acond_t (bx) ?_; conv => whnf) | (refine acond_f (bl) ?_; conv => whnf) | (refine acond_t (by_) ?_; conv => whnf) | (refine acond_f ((hinj ex0 ey0)) ?_; conv => whnf) | (refine acond_t (b9) ?_; conv => whnf))
            refine ACall.mono hcv ?_; rintro r0 H ⟨rfl, rfl⟩
            conv => whnf
            repeat (first | (refine acond_f (g1) ?_; conv => whnf) | (refine acond_t (bx) ?_; conv => whnf) | (refine acond_f (bl) ?_; conv => whnf) | (refine acond_t (by_) ?_; conv => whnf) | (refine acond_f ((hinj ex0 ey0)) ?_; conv => whnf) | (refine acond_t (b9) ?_; conv => whnf))
            refine ACall.mono hvv ?_; rintro r0 H ⟨rfl, rfl⟩
            conv => whnf
            repeat (first | (refine acond_f (g1) ?_; conv => whnf) | (refine acond_t (bx) ?_; conv => whnf) | (refine acond_f (bl) ?_; conv => whnf) | (refine acond_t (by_) ?_; conv => whnf) | (refine acond_f ((hinj ex0 ey0)) ?_; conv => whnf) | (refine acond_t (b9) ?_; conv => whnf))
            refine ACall.mono hfv ?_; rintro r0 H ⟨rfl, rfl⟩
            conv => whnf
            repeat (first | (refine acond_f (g1) ?_; conv => whnf) | (refine acond_t (bx) ?_; conv => whnf) | (refine acond_f (bl) ?_; conv => whnf) | (refine acond_t (by_) ?_; conv => whnf) | (refine acond_f ((hinj ex0 ey0)) ?_; conv => whnf) | (refine acond_t (b9) ?_; conv => whnf))
            refine ACall.mono hfs ?_; rintro r0 H ⟨rfl, rfl⟩
            conv => whnf
            repeat (first | (refine acond_f (g1) ?_; conv => whnf) | (refine acond_t (bx) ?_; conv => whnf) | (refine acond_f (bl) ?_; conv => whnf) | (refine acond_t (by_) ?_; conv => whnf) | (refine acond_f ((hinj ex0 ey0)) ?_; conv => whnf) | (refine acond_t (b9) ?_; conv => whnf))
            refine ACall.mono aw ?_; rintro r0 H ⟨rfl, rfl⟩
            conv => whnf
            repeat (first | (refine acond_f (g1) ?_; conv => whnf) | (refine acond_t (bx) ?_; conv => whnf) | (refine acond_f (bl) ?_; conv => whnf) | (refine acond_t (by_) ?_; conv => whnf) | (refine acond_f ((hinj ex0 ey0)) ?_; conv => whnf) | (refine acond_t (b9) ?_; conv => whnf))
            exact ⟨rfl, rfl⟩
          · have by_ : (ey == 0) = false := by simpa using ey0
            conv => whnf
            refine ACall.mono fl ?_; rintro r0 H ⟨rfl, rfl⟩
            conv => whnf
            repeat (first | (refine acond_f (g1) ?_; conv => whnf) | (refine acond_t (bx) ?_; conv => whnf) | (refine acond_f (bl) ?_; conv => whnf) | (refine acond_f (by_) ?_; conv => whnf) | (refine acond_t (b9) ?_; conv => whnf))
            refine ACall.mono fm ?_; rintro r0 H ⟨rfl, rfl⟩
            conv => whnf
            repeat (first | (refine acond_f (g1) ?_; conv => whnf) | (refine acond_t (bx) ?_; conv => whnf) | (refine acond_f (bl) ?_; conv => whnf) | (refine acond_f (by_) ?_; conv => whnf) | (refine acond_t (b9) ?_; conv => whnf))
            refine ACall.mono tl ?_; rintro r0 H ⟨rfl, rfl⟩
            conv => whnf
            repeat (first | (refine acond_f (g1) ?_; conv => whnf) | (refine acond_t (bx) ?_; conv => whnf) | (refine acond_f (bl) ?_; conv => whnf) | (refine acond_f (by_) ?_; conv => whnf) | (refine acond_t (b9) ?_; conv => whnf))
            refine ACall.mono tm ?_; rintro r0 H ⟨rfl, rfl⟩
            conv => whnf
            repeat (first | (refine acond_f (g1) ?_; conv => whnf) | (refine acond_t (bx) ?_; conv => whnf) | (refine acond_f (bl) ?_; conv => whnf) | (refine acond_f (by_) ?_; conv => whnf) | (refine acond_t (b9) ?_; conv => whnf))
            refine ACall.mono htx ?_; rintro r0 H ⟨rfl, rfl⟩
            conv => whnf
            repeat (first | (refine acond_f (g1) ?_; conv => whnf) | (refine acond_t (bx) ?_; conv => whnf) | (refine acond_f (bl) ?_; conv => whnf) | (refine acond_f (by_) ?_; conv => whnf) | (refine acond_t (b9) ?_; conv => whnf))
            refine ACall.mono hty ?_; rintro r0 H ⟨rfl, rfl⟩
            conv => whnf
            repeat (first | (refine acond_f (g1) ?_; conv => whnf) | (refine acond_t (bx) ?_; conv => whnf) | (refine acond_f (bl) ?_; conv => whnf) | (refine acond_f (by_) ?_; conv => whnf) | (refine acond_t (b9) ?_; conv => whnf))
            refine ACall.mono hs ?_; rintro r0 H ⟨rfl, rfl⟩
            conv => whnf
            repeat (first | (refine acond_f (g1) ?_; conv => whnf) | (refine acond_t (bx) ?_; conv => whnf) | (refine acond_f (bl) ?_; conv => whnf) | (refine acond_f (by_) ?_; conv => whnf) | (refine acond_t (b9) ?_; conv => whnf))
            refine ACall.mono htv ?_; rintro r0 H ⟨rfl, rfl⟩
            conv => whnf
            repeat (first | (refine acond_f (g1) ?_; conv => whnf) | (refine acond_t (bx) ?_; conv => whnf) | (refine acond_f (bl) ?_; conv => whnf) | (refine acond_f (by_) ?_; conv => whnf) | (refine acond_t (b9) ?_; conv => whnf))
            refine ACall.mono hpv ?_; rintro r0 H ⟨rfl, rfl⟩
            conv => whnf
            repeat (first | (refine acond_f (g1) ?_; conv => whnf) | (refine acond_t (bx) ?_; conv => whnf) | (refine acond_f (bl) ?_; conv => whnf) | (refine acond_f (by_) ?_; conv => whnf) | (refine acond_t (b9) ?_; conv => whnf))
            refine ACall.mono hcv ?_; rintro r0 H ⟨rfl, rfl⟩
            conv => whnf
            repeat (first | (refine acond_f (g1) ?_; conv => whnf) | (refine acond_t (bx) ?_; conv => whnf) | (refine acond_f (bl) ?_; conv => whnf) | (refine acond_f (by_) ?_; conv => whnf) | (refine acond_t (b9) ?_; conv => whnf))
            refine ACall.mono hvv ?_; rintro r0 H ⟨rfl, rfl⟩
            conv => whnf
            repeat (first | (refine acond_f (g1) ?_; conv => whnf) | (refine acond_t (bx) ?_; conv => whnf) | (refine acond_f (bl) ?_; conv => whnf) | (refine acond_f (by_) ?_; conv => whnf) | (refine acond_t (b9) ?_; conv => whnf))
            refine ACall.mono hfv ?_; rintro r0 H ⟨rfl, rfl⟩
            conv => whnf
            repeat (first | (refine acond_f (g1) ?_; conv => whnf) | (refine acond_t (bx) ?_; conv => whnf) | (refine acond_f (bl) ?_; conv => whnf) | (refine acond_f (by_) ?_; conv => whnf) | (refine acond_t (b9) ?_; conv => whnf))
            refine ACall.mono hfs ?_; rintro r0 H ⟨rfl, rfl⟩
            conv => whnf
            repeat (first | (refine acond_f (g1) ?_; conv => whnf) | (refine acond_t (bx) ?_; conv => whnf) | (refine acond_f (bl) ?_; conv => whnf) | (refine acond_f (by_) ?_; conv => whnf) | (refine acond_t (b9) ?_; conv => whnf))
            refine ACall.mono aw ?_; rintro r0 H ⟨rfl, rfl⟩
            conv => whnf
            repeat (first | (refine acond_f (g1) ?_; conv => whnf) | (refine acond_t (bx) ?_; conv => whnf) | (refine acond_f (bl) ?_; conv => whnf) | (refine acond_f (by_) ?_; conv => whnf) | (refine acond_t (b9) ?_; conv => whnf))
            exact ⟨rfl, rfl⟩
      · have bx : (ex == 0) = false := by simpa using ex0
        by_cases ey0 : ey = 0
        · have by_ : (ey == 0) = true := by simpa using ey0
          conv => whnf
          refine ACall.mono fl ?_; rintro r0 H ⟨rfl, rfl⟩
          conv => whnf
          repeat (first | (refine acond_f (g1) ?_; conv => whnf) | (refine acond_f (bx) ?_; conv => whnf) | (refine acond_t (by_) ?_; conv => whnf) | (refine acond_t (b9) ?_; conv => whnf))
          refine ACall.mono fm ?_; rintro r0 H ⟨rfl, rfl⟩
          conv => whnf
          repeat (first | (refine acond_f (g1) ?_; conv => whnf) | (refine acond_f (bx) ?_; conv => whnf) | (refine acond_t (by_) ?_; conv => whnf) | (refine acond_t (b9) ?_; conv => whnf))
          refine ACall.mono tl ?_; rintro r0 H ⟨rfl, rfl⟩
          conv => whnf
          repeat (first | (refine acond_f (g1) ?_; conv => whnf) | (refine acond_f (bx) ?_; conv => whnf) | (refine acond_t (by_) ?_; conv => whnf) | (refine acond_t (b9) ?_; conv => whnf))
          refine ACall.mono tm ?_; rintro r0 H ⟨rfl, rfl⟩
          conv => whnf
          repeat (first | (refine acond_f (g1) ?_; conv => whnf) | (refine acond_f (bx) ?_; conv => whnf) | (refine acond_t (by_) ?_; conv => whnf) | (refine acond_t (b9) ?_; conv => whnf))
          refine ACall.mono htx ?_; rintro r0 H ⟨rfl, rfl⟩
          conv => whnf
          repeat (first | (refine acond_f (g1) ?_; conv => whnf) | (refine acond_f (bx) ?_; conv => whnf) | (refine acond_t (by_) ?_; conv => whnf) | (refine acond_t (b9) ?_; conv => whnf))
          refine ACall.mono hty ?_; rintro r0 H ⟨rfl, rfl⟩
          conv => whnf
          repeat (first | (refine acond_f (g1) ?_; conv => whnf) | (refine acond_f (bx) ?_; conv => whnf) | (refine acond_t (by_) ?_; conv => whnf) | (refine acond_t (b9) ?_; conv => whnf))
          refine ACall.mono hs ?_; rintro r0 H ⟨rfl, rfl⟩
          conv => whnf
          repeat (first | (refine acond_f (g1) ?_; conv => whnf) | (refine acond_f (bx) ?_; conv => whnf) | (refine acond_t (by_) ?_; conv => whnf) | (refine acond_t (b9) ?_; conv => whnf))
          refine ACall.mono htv ?_; rintro r0 H ⟨rfl, rfl⟩
          conv => whnf
          repeat (first | (refine acond_f (g1) ?_; conv => whnf) | (refine acond_f (bx) ?_; conv => whnf) | (refine acond_t (by_) ?_; conv => whnf) | (refine acond_t (b9) ?_; conv => whnf))
          refine ACall.mono hpv ?_; rintro r0 H ⟨rfl, rfl⟩
          conv => whnf
          repeat (first | (refine acond_f (g1) ?_; conv => whnf) | (refine acond_f (bx) ?_; conv => whnf) | (refine acond_t (by_) ?_; conv => whnf) | (refine acond_t (b9) ?_; conv => whnf))
          refine ACall.mono hcv ?_; rintro r0 H ⟨rfl, rfl⟩
          conv => whnf
          repeat (first | (refine acond_f (g1) ?_; conv => whnf) | (refine acond_f (bx) ?_; conv => whnf) | (refine acond_t (by_) ?_; conv => whnf) | (refine acond_t (b9) ?_; conv => whnf))
          refine ACall.mono hvv ?_; rintro r0 H ⟨rfl, rfl⟩
          conv => whnf
          repeat (first | (refine acond_f (g1) ?_; conv => whnf) | (refine acond_f (bx) ?_; conv => whnf) | (refine acond_t (by_) ?_; conv => whnf) | (refine acond_t (b9) ?_; conv => whnf))
          refine ACall.mono hfv ?_; rintro r0 H ⟨rfl, rfl⟩
          conv => whnf
          repeat (first | (refine acond_f (g1) ?_; conv => whnf) | (refine acond_f (bx) ?_; conv => whnf) | (refine acond_t (by_) ?_; conv => whnf) | (refine acond_t (b9) ?_; conv => whnf))
          refine ACall.mono hfs ?_; rintro r0 H ⟨rfl, rfl⟩
          conv => whnf
          repeat (first | (refine acond_f (g1) ?_; conv => whnf) | (refine acond_f (bx) ?_; conv => whnf) | (refine acond_t (by_) ?_; conv => whnf) | (refine acond_t (b9) ?_; conv => whnf))
          refine ACall.mono aw ?_; rintro r0 H ⟨rfl, rfl⟩
          conv => whnf
          repeat (first | (refine acond_f (g1) ?_; conv => whnf) | (refine acond_f (bx) ?_; conv => whnf) | (refine acond_t (by_) ?_; conv => whnf) | (refine acond_t (b9) ?_; conv => whnf))
          exact ⟨rfl, rfl⟩
        · have by_ : (ey == 0) = false := by simpa using ey0
          conv => whnf
          refine ACall.mono fl ?_; rintro r0 H ⟨rfl, rfl⟩
          conv => whnf
          repeat (first | (refine acond_f (g1) ?_; conv => whnf) | (refine acond_f (bx) ?_; conv => whnf) | (refine acond_f (by_) ?_; conv => whnf) | (refine acond_t (b9) ?_; conv => whnf))
          refine ACall.mono fm ?_; rintro r0 H ⟨rfl, rfl⟩
          conv => whnf
          repeat (first | (refine acond_f (g1) ?_; conv => whnf) | (refine acond_f (bx) ?_; conv => whnf) | (refine acond_f (by_) ?_; conv => whnf) | (refine acond_t (b9) ?_; conv => whnf))
          refine ACall.mono tl ?_; rintro r0 H ⟨rfl, rfl⟩
          conv => whnf
          repeat (first | (refine acond_f (g1) ?_; conv => whnf) | (refine acond_f (bx) ?_; conv => whnf) | (refine acond_f (by_) ?_; conv => whnf) | (refine acond_t (b9) ?_; conv => whnf))
          refine ACall.mono tm ?_; rintro r0 H ⟨rfl, rfl⟩
          conv => whnf
          repeat (first | (refine acond_f (g1) ?_; conv => whnf) | (refine acond_f (bx) ?_; conv => whnf) | (refine acond_f (by_) ?_; conv => whnf) | (refine acond_t (b9) ?_; conv => whnf))
          refine ACall.mono htx ?_; rintro r0 H ⟨rfl, rfl⟩
          conv => whnf
          repeat (first | (refine acond_f (g1) ?_; conv => whnf) | (refine acond_f (bx) ?_; conv => whnf) | (refine acond_f (by_) ?_; conv => whnf) | (refine acond_t (b9) ?_; conv => whnf))
          refine ACall.mono hty ?_; rintro r0 H ⟨rfl, rfl⟩
          conv => whnf
          repeat (first | (refine acond_f (g1) ?_; conv => whnf) | (refine acond_f (bx) ?_; conv => whnf) | (refine acond_f (by_) ?_; conv => whnf) | (refine acond_t (b9) ?_; conv => whnf))
          refine ACall.mono hs ?_; rintro r0 H ⟨rfl, rfl⟩
          conv => whnf
          repeat (first | (refine acond_f (g1) ?_; conv => whnf) | (refine acond_f (bx) ?_; conv => whnf) | (refine acond_f (by_) ?_; conv => whnf) | (refine acond_t (b9) ?_; conv => whnf))
          refine ACall.mono htv ?_; rintro r0 H ⟨rfl, rfl⟩
          conv => whnf
          repeat (first | (refine acond_f (g1) ?_; conv => whnf) | (refine acond_f (bx) ?_; conv => whnf) | (refine acond_f (by_) ?_; conv => whnf) | (refine acond_t (b9) ?_; conv => whnf))
          refine ACall.mono hpv ?_; rintro r0 H ⟨rfl, rfl⟩
          conv => whnf
          repeat (first | (refine acond_f (g1) ?_; conv => whnf) | (refine acond_f (bx) ?_; conv => whnf) | (refine acond_f (by_) ?_; conv => whnf) | (refine acond_t (b9) ?_; conv => whnf))
          refine ACall.mono hcv ?_; rintro r0 H ⟨rfl, rfl⟩
          conv => whnf
          repeat (first | (refine acond_f (g1) ?_; conv => whnf) | (refine acond_f (bx) ?_; conv => whnf) | (refine acond_f (by_) ?_; conv => whnf) | (refine acond_t (b9) ?_; conv => whnf))
          refine ACall.mono hvv ?_; rintro r0 H ⟨rfl, rfl⟩
          conv => whnf
          repeat (first | (refine acond_f (g1) ?_; conv => whnf) | (refine acond_f (bx) ?_; conv => whnf) | (refine acond_f (by_) ?_; conv => whnf) | (refine acond_t (b9) ?_; conv => whnf))
          refine ACall.mono hfv ?_; rintro r0 H ⟨rfl, rfl⟩
          conv => whnf
          repeat (first | (refine acond_f (g1) ?_; conv => whnf) | (refine acond_f (bx) ?_; conv => whnf) | (refine acond_f (by_) ?_; conv => whnf) | (refine acond_t (b9) ?_; conv => whnf))
          refine ACall.mono hfs ?_; rintro r0 H ⟨rfl, rfl⟩
          conv => whnf
          repeat (first | (refine acond_f (g1) ?_; conv => whnf) | (refine acond_f (bx) ?_; conv => whnf) | (refine acond_f (by_) ?_; conv => whnf) | (refine acond_t (b9) ?_; conv => whnf))
          refine ACall.mono aw ?_; rintro r0 H ⟨rfl, rfl⟩
          conv => whnf
          repeat (first | (refine acond_f (g1) ?_; conv => whnf) | (refine acond_f (bx) ?_; conv => whnf) | (refine acond_f (by_) ?_; conv => whnf) | (refine acond_t (b9) ?_; conv => whnf))
          exact ⟨rfl, rfl⟩
    · obtain ⟨rfl, hp⟩ := hu.2.1 v p e rfl he0
      have b8 : (e != 0) = true := by simpa using he0
      have b9 : decide (((p : Nat) : Int) ≤ ((sb s).size : Nat)) = true := decide_eq_true (by rw [sb_size]; omega)
      have b10 : decide (((p : Nat) : Int) ≥ 0) = true := decide_eq_true (by omega)
      by_cases ex0 : ex = 0
      · have bx : (ex == 0) = true := by simpa using ex0
        by_cases txl : tx.length ≤ 8192
        · have bl : decide (((sb tx).size : Int) ≤ 8192) = true := decide_eq_true (hlen.2 txl)
          by_cases ey0 : ey = 0
          · have by_ : (ey == 0) = true := by simpa using ey0
            conv => whnf
            refine ACall.mono fl ?_; rintro r0 H ⟨rfl, rfl⟩
            conv => whnf
            repeat (first | (refine acond_f (g1) ?_; conv => whnf) | (refine acond_t (bx) ?_; conv => whnf) | (refine acond_t (bl) ?_; conv => whnf) | (refine acond_t (by_) ?_; conv => whnf) | (refine acond_f ((hinj ex0 ey0)) ?_; conv => whnf) | (refine acond_t (b8) ?_; conv => whnf) | (refine acond_t (b9) ?_; conv => whnf) | (refine acond_t (b10) ?_; conv => whnf))
            refine ACall.mono fm ?_; rintro r0 H ⟨rfl, rfl⟩
            conv => whnf
            repeat (first | (refine acond_f (g1) ?_; conv => whnf) | (refine acond_t (bx) ?_; conv => whnf) | (refine acond_t (bl) ?_; conv => whnf) | (refine acond_t (by_) ?_; conv => whnf) | (refine acond_f ((hinj ex0 ey0)) ?_; conv => whnf) | (refine acond_t (b8) ?_; conv => whnf) | (refine acond_t (b9) ?_; conv => whnf) | (refine acond_t (b10) ?_; conv => whnf))
            refine ACall.mono tl ?_; rintro r0 H ⟨rfl, rfl⟩
            conv => whnf
            repeat (first | (refine acond_f (g1) ?_; conv => whnf) | (refine acond_t (bx) ?_; conv => whnf) | (refine acond_t (bl) ?_; conv => whnf) | (refine acond_t (by_) ?_; conv => whnf) | (refine acond_f ((hinj ex0 ey0)) ?_; conv => whnf) | (refine acond_t (b8) ?_; conv => whnf) | (refine acond_t (b9) ?_; conv => whnf) | (refine acond_t (b10) ?_; conv => whnf))
            refine ACall.mono tm ?_; rintro r0 H ⟨rfl, rfl⟩
            conv => whnf
            repeat (first | (refine acond_f (g1) ?_; conv => whnf) | (refine acond_t (bx) ?_; conv => whnf) | (refine acond_t (bl) ?_; conv => whnf) | (refine acond_t (by_) ?_; conv => whnf) | (refine acond_f ((hinj ex0 ey0)) ?_; conv => whnf) | (refine acond_t (b8) ?_; conv => whnf) | (refine acond_t (b9) ?_; conv => whnf) | (refine acond_t (b10) ?_; conv => whnf))
            refine ACall.mono htx ?_; rintro r0 H ⟨rfl, rfl⟩
            conv => whnf
            repeat (first | (refine acond_f (g1) ?_; conv => whnf) | (refine acond_t (bx) ?_; conv => whnf) | (refine acond_t (bl) ?_; conv => whnf) | (refine acond_t (by_) ?_; conv => whnf) | (refine acond_f ((hinj ex0 ey0)) ?_; conv => whnf) | (refine acond_t (b8) ?_; conv => whnf) | (refine acond_t (b9) ?_; conv => whnf) | (refine acond_t (b10) ?_; conv => whnf))
            refine ACall.mono hty ?_; rintro r0 H ⟨rfl, rfl⟩
            conv => whnf
            repeat (first | (refine acond_f (g1) ?_; conv => whnf) | (refine acond_t (bx) ?_; conv => whnf) | (refine acond_t (bl) ?_; conv => whnf) | (refine acond_t (by_) ?_; conv => whnf) | (refine acond_f ((hinj ex0 ey0)) ?_; conv => whnf) | (refine acond_t (b8) ?_; conv => whnf) | (refine acond_t (b9) ?_; conv => whnf) | (refine acond_t (b10) ?_; conv => whnf))
            refine ACall.mono (hpt ex0 txl) ?_; rintro r0 H ⟨rfl, rfl⟩
            conv => whnf
            repeat (first | (refine acond_f (g1) ?_; conv => whnf) | (refine acond_t (bx) ?_; conv => whnf) | (refine acond_t (bl) ?_; conv => whnf) | (refine acond_t (by_) ?_; conv => whnf) | (refine acond_f ((hinj ex0 ey0)) ?_; conv => whnf) | (refine acond_t (b8) ?_; conv => whnf) | (refine acond_t (b9) ?_; conv => whnf) | (refine acond_t (b10) ?_; conv => whnf))
            refine ACall.mono hxx ?_; rintro r0 H ⟨rfl, rfl⟩
            conv => whnf
            repeat (first | (refine acond_f (g1) ?_; conv => whnf) | (refine acond_t (bx) ?_; conv => whnf) | (refine acond_t (bl) ?_; conv => whnf) | (refine acond_t (by_) ?_; conv => whnf) | (refine acond_f ((hinj ex0 ey0)) ?_; conv => whnf) | (refine acond_t (b8) ?_; conv => whnf) | (refine acond_t (b9) ?_; conv => whnf) | (refine acond_t (b10) ?_; conv => whnf))
            refine ACall.mono he ?_; rintro r0 H ⟨rfl, rfl⟩
            conv => whnf
            repeat (first | (refine acond_f (g1) ?_; conv => whnf) | (refine acond_t (bx) ?_; conv => whnf) | (refine acond_t (bl) ?_; conv => whnf) | (refine acond_t (by_) ?_; conv => whnf) | (refine acond_f ((hinj ex0 ey0)) ?_; conv => whnf) | (refine acond_t (b8) ?_; conv => whnf) | (refine acond_t (b9) ?_; conv => whnf) | (refine acond_t (b10) ?_; conv => whnf))
            refine ACall.mono hs ?_; rintro r0 H ⟨rfl, rfl⟩
            conv => whnf
            repeat (first | (refine acond_f (g1) ?_; conv => whnf) | (refine acond_t (bx) ?_; conv => whnf) | (refine acond_t (bl) ?_; conv => whnf) | (refine acond_t (by_) ?_; conv => whnf) | (refine acond_f ((hinj ex0 ey0)) ?_; conv => whnf) | (refine acond_t (b8) ?_; conv => whnf) | (refine acond_t (b9) ?_; conv => whnf) | (refine acond_t (b10) ?_; conv => whnf))
            refine ACall.mono aw ?_; rintro r0 H ⟨rfl, rfl⟩
            conv => whnf
            repeat (first | (refine acond_f (g1) ?_; conv => whnf) | (refine acond_t (bx) ?_; conv => whnf) | (refine acond_t (bl) ?_; conv => whnf) | (refine acond_t (by_) ?_; conv => whnf) | (refine acond_f ((hinj ex0 ey0)) ?_; conv => whnf) | (refine acond_t (b8) ?_; conv => whnf) | (refine acond_t (b9) ?_; conv => whnf) | (refine acond_t (b10) ?_; conv => whnf))
            exact ⟨rfl, rfl⟩
          · have by_ : (ey == 0) = false := by simpa using ey0
            conv => whnf
            refine ACall.mono fl ?_; rintro r0 H ⟨rfl, rfl⟩
            conv => whnf
            repeat (first | (refine acond_f (g1) ?_; conv => whnf) | (refine acond_t (bx) ?_; conv => whnf) | (refine acond_t (bl) ?_; conv => whnf) | (refine acond_f (by_) ?_; conv => whnf) | (refine acond_t (b8) ?_; conv => whnf) | (refine acond_t (b9) ?_; conv => whnf) | (refine acond_t (b10) ?_; conv => whnf))
            refine ACall.mono fm ?_; rintro r0 H ⟨rfl, rfl⟩
            conv => whnf
            repeat (first | (refine acond_f (g1) ?_; conv => whnf) | (refine acond_t (bx) ?_; conv => whnf) | (refine acond_t (bl) ?_; conv => whnf) | (refine acond_f (by_) ?_; conv => whnf) | (refine acond_t (b8) ?_; conv => whnf) | (refine acond_t (b9) ?_; conv => whnf) | (refine acond_t (b10) ?_; conv => whnf))
            refine ACall.mono tl ?_; rintro r0 H ⟨rfl, rfl⟩
            conv => whnf
            repeat (first | (refine acond_f (g1) ?_; conv => whnf) | (refine acond_t (bx) ?_; conv => whnf) | (refine acond_t (bl) ?_; conv => whnf) | (refine acond_f (by_) ?_; conv => whnf) | (refine acond_t (b8) ?_; conv => whnf) | (refine acond_t (b9) ?_; conv => whnf) | (refine acond_t (b10) ?_; conv => whnf))
            refine ACall.mono tm ?_; rintro r0 H ⟨rfl, rfl⟩
            conv => whnf
            repeat (first | (refine acond_f (g1) ?_; conv => whnf) | (refine acond_t (bx) ?_; conv => whnf) | (refine acond_t (bl) ?_; conv => whnf) | (refine acond_f (by_) ?_; conv => whnf) | (refine acond_t (b8) ?_; conv => whnf) | (refine acond_t (b9) ?_; conv => whnf) | (refine acond_t (b10) ?_; conv => whnf))
            refine ACall.mono htx ?_; rintro r0 H ⟨rfl, rfl⟩
            conv => whnf
            repeat (first | (refine acond_f (g1) ?_; conv => whnf) | (refine acond_t (bx) ?_; conv => whnf) | (refine acond_t (bl) ?_; conv => whnf) | (refine acond_f (by_) ?_; conv => whnf) | (refine acond_t (b8) ?_; conv => whnf) | (refine acond_t (b9) ?_; conv => whnf) | (refine acond_t (b10) ?_; conv => whnf))
            refine ACall.mono hty ?_; rintro r0 H ⟨rfl, rfl⟩
            conv => whnf
            repeat (first | (refine acond_f (g1) ?_; conv => whnf) | (refine acond_t (bx) ?_; conv => whnf) | (refine acond_t (bl) ?_; conv => whnf) | (refine acond_f (by_) ?_; conv => whnf) | (refine acond_t (b8) ?_; conv => whnf) | (refine acond_t (b9) ?_; conv => whnf) | (refine acond_t (b10) ?_; conv => whnf))
            refine ACall.mono (hpt ex0 txl) ?_; rintro r0 H ⟨rfl, rfl⟩
            conv => whnf
            repeat (first | (refine acond_f (g1) ?_; conv => whnf) | (refine acond_t (bx) ?_; conv => whnf) | (refine acond_t (bl) ?_; conv => whnf) | (refine acond_f (by_) ?_; conv => whnf) | (refine acond_t (b8) ?_; conv => whnf) | (refine acond_t (b9) ?_; conv => whnf) | (refine acond_t (b10) ?_; conv => whnf))
            refine ACall.mono hxx ?_; rintro r0 H ⟨rfl, rfl⟩
            conv => whnf
            repeat (first | (refine acond_f (g1) ?_; conv => whnf) | (refine acond_t (bx) ?_; conv => whnf) | (refine acond_t (bl) ?_; conv => whnf) | (refine acond_f (by_) ?_; conv => whnf) | (refine acond_t (b8) ?_; conv => whnf) | (refine acond_t (b9) ?_; conv => whnf) | (refine acond_t (b10) ?_; conv => whnf))
            refine ACall.mono hs ?_; rintro r0 H ⟨rfl, rfl⟩
            conv => whnf
            repeat (first | (refine acond_f (g1) ?_; conv => whnf) | (refine acond_t (bx) ?_; conv => whnf) | (refine acond_t (bl) ?_; conv => whnf) | (refine acond_f (by_) ?_; conv => whnf) | (refine acond_t (b8) ?_; conv => whnf) | (refine acond_t (b9) ?_; conv => whnf) | (refine acond_t (b10) ?_; conv => whnf))
            refine ACall.mono aw ?_; rintro r0 H ⟨rfl, rfl⟩
            conv => whnf
            repeat (first | (refine acond_f (g1) ?_; conv => whnf) | (refine acond_t (bx) ?_; conv => whnf) | (refine acond_t (bl) ?_; conv => whnf) | (refine acond_f (by_) ?_; conv => whnf) | (refine acond_t (b8) ?_; conv => whnf) | (refine acond_t (b9) ?_; conv => whnf) | (refine acond_t (b10) ?_; conv => whnf))
            exact ⟨rfl, rfl⟩
        · have bl : decide (((sb tx).size : Int) ≤ 8192) = false := decide_eq_false fun h => txl (hlen.1 h)
          by_cases ey0 : ey = 0
          · have by_ : (ey == 0) = true := by simpa using ey0
            conv => whnf
            refine ACall.mono fl ?_; rintro r0 H ⟨rfl, rfl⟩
            conv => whnf
            repeat (first | (refine acond_f (g1) ?_; conv => whnf) | (refine acond_t (bx) ?_; conv => whnf) | (refine acond_f (bl) ?_; conv => whnf) | (refine acond_t (by_) ?_; conv => whnf) | (refine acond_f ((hinj ex0 ey0)) ?_; conv => whnf) | (refine acond_t (b8) ?_; conv => whnf) | (refine acond_t (b9) ?_; conv => whnf) | (refine acond_t (b10) ?_; conv => whnf))
            refine ACall.mono fm ?_; rintro r0 H ⟨rfl, rfl⟩
            conv => whnf
            repeat (first | (refine acond_f (g1) ?_; conv => whnf) | (refine acond_t (bx) ?_; conv => whnf) | (refine acond_f (bl) ?_; conv => whnf) | (refine acond_t (by_) ?_; conv => whnf) | (refine acond_f ((hinj ex0 ey0)) ?_; conv => whnf) | (refine acond_t (b8) ?_; conv => whnf) | (refine acond_t (b9) ?_; conv => whnf) | (refine acond_t (b10) ?_; conv => whnf))
            refine ACall.mono tl ?_; rintro r0 H ⟨rfl, rfl⟩
            conv => whnf
            repeat (first | (refine acond_f (g1) ?_; conv => whnf) | (refine acond_t (bx) ?_; conv => whnf) | (refine acond_f (bl) ?_; conv => whnf) | (refine acond_t (by_) ?_; conv => whnf) | (refine acond_f ((hinj ex0 ey0)) ?_; conv => whnf) | (refine acond_t (b8) ?_; conv => whnf) | (refine acond_t (b9) ?_; conv => whnf) | (refine acond_t (b10) ?_; conv => whnf))
            refine ACall.mono tm ?_; rintro r0 H ⟨rfl, rfl⟩
            conv => whnf
            repeat (first | (refine acond_f (g1) ?_; conv => whnf) | (refine acond_t (bx) ?_; conv => whnf) | (refine acond_f (bl) ?_; conv => whnf) | (refine acond_t (by_) ?_; conv => whnf) | (refine acond_f ((hinj ex0 ey0)) ?_; conv => whnf) | (refine acond_t (b8) ?_; conv => whnf) | (refine acond_t (b9) ?_; conv => whnf) | (refine acond_t (b10) ?_; conv => whnf))
            refine ACall.mono htx ?_; rintro r0 H ⟨rfl, rfl⟩
            conv => whnf
            repeat (first | (refine acond_f (g1) ?_; conv => whnf) | (refine acond_t (bx) ?_; conv => whnf) | (refine acond_f (bl) ?_; conv => whnf) | (refine acond_t (by_) ?_; conv => whnf) | (refine acond_f ((hinj ex0 ey0)) ?_; conv => whnf) | (refine acond_t (b8) ?_; conv => whnf) | (refine acond_t (b9) ?_; conv => whnf) | (refine acond_t (b10) ?_; conv => whnf))
            refine ACall.mono hty ?_; rintro r0 H ⟨rfl, rfl⟩
            conv => whnf
            repeat (first | (refine acond_f (g1) ?_; conv => whnf) | (refine acond_t (bx) ?_; conv => whnf) | (refine acond_f (bl) ?_; conv => whnf) | (refine acond_t (by_) ?_; conv => whnf) | (refine acond_f ((hinj ex0 ey0)) ?_; conv => whnf) | (refine acond_t (b8) ?_; conv => whnf) | (refine acond_t (b9) ?_; conv => whnf) | (refine acond_t (b10) ?_; conv => whnf))
            refine ACall.mono he ?_; rintro r0 H ⟨rfl, rfl⟩
            conv => whnf
            repeat (first | (refine acond_f (g1) ?_; conv => whnf) | (refine acond_t (bx) ?_; conv => whnf) | (refine acond_f (bl) ?_; conv => whnf) | (refine acond_t (by_) ?_; conv => whnf) | (refine acond_f ((hinj ex0 ey0)) ?_; conv => whnf) | (refine acond_t (b8) ?_; conv => whnf) | (refine acond_t (b9) ?_; conv => whnf) | (refine acond_t (b10) ?_; conv => whnf))
            refine ACall.mono hs ?_; rintro r0 H ⟨rfl, rfl⟩
            conv => whnf
            repeat (first | (refine acond_f (g1) ?_; conv => whnf) | (refine acond_t (bx) ?_; conv => whnf) | (refine acond_f (bl) ?_; conv => whnf) | (refine acond_t (by_) ?_; conv => whnf) | (refine acond_f ((hinj ex0 ey0)) ?_; conv => whnf) | (refine acond_t (b8) ?_; conv => whnf) | (refine acond_t (b9) ?_; conv => whnf) | (refine acond_t (b10) ?_; conv => whnf))
            refine ACall.mono aw ?_; rintro r0 H ⟨rfl, rfl⟩
            conv => whnf
            repeat (first | (refine acond_f (g1) ?_; conv => whnf) | (refine acond_t (bx) ?_; conv => whnf) | (refine acond_f (bl) ?_; conv => whnf) | (refine acond_t (by_) ?_; conv => whnf) | (refine acond_f ((hinj ex0 ey0)) ?_; conv => whnf) | (refine acond_t (b8) ?_; conv => whnf) | (refine acond_t (b9) ?_; conv => whnf) | (refine acond_t (b10) ?_; conv => whnf))
            exact ⟨rfl, rfl⟩
          · have by_ : (ey == 0) = false := by simpa using ey0
            conv => whnf
            refine ACall.mono fl ?_; rintro r0 H ⟨rfl, rfl⟩
            conv => whnf
            repeat (first | (refine acond_f (g1) ?_; conv => whnf) | (refine acond_t (bx) ?_; conv => whnf) | (refine acond_f (bl) ?_; conv => whnf) | (refine acond_f (by_) ?_; conv => whnf) | (refine acond_t (b8) ?_; conv => whnf) | (refine acond_t (b9) ?_; conv => whnf) | (refine acond_t (b10) ?_; conv => whnf))
            refine ACall.mono fm ?_; rintro r0 H ⟨rfl, rfl⟩
            conv => whnf
            repeat (first | (refine acond_f (g1) ?_; conv => whnf) | (refine acond_t (bx) ?_; conv => whnf) | (refine acond_f (bl) ?_; conv => whnf) | (refine acond_f (by_) ?_; conv => whnf) | (refine acond_t (b8) ?_; conv => whnf) | (refine acond_t (b9) ?_; conv => whnf) | (refine acond_t (b10) ?_; conv => whnf))
            refine ACall.mono tl ?_; rintro r0 H ⟨rfl, rfl⟩
            conv => whnf
            repeat (first | (refine acond_f (g1) ?_; conv => whnf) | (refine acond_t (bx) ?_; conv => whnf) | (refine acond_f (bl) ?_; conv => whnf) | (refine acond_f (by_) ?_; conv => whnf) | (refine acond_t (b8) ?_; conv => whnf) | (refine acond_t (b9) ?_; conv => whnf) | (refine acond_t (b10) ?_; conv => whnf))
            refine ACall.mono tm ?_; rintro r0 H ⟨rfl, rfl⟩
            conv => whnf
            repeat (first | (refine acond_f (g1) ?_; conv => whnf) | (refine acond_t (bx) ?_; conv => whnf) | (refine acond_f (bl) ?_; conv => whnf) | (refine acond_f (by_) ?_; conv => whnf) | (refine acond_t (b8) ?_; conv => whnf) | (refine acond_t (b9) ?_; conv => whnf) | (refine acond_t (b10) ?_; conv => whnf))
            refine ACall.mono htx ?_; rintro r0 H ⟨rfl, rfl⟩
            conv => whnf
            repeat (first | (refine acond_f (g1) ?_; conv => whnf) | (refine acond_t (bx) ?_; conv => whnf) | (refine acond_f (bl) ?_; conv => whnf) | (refine acond_f (by_) ?_; conv => whnf) | (refine acond_t (b8) ?_; conv => whnf) | (refine acond_t (b9) ?_; conv => whnf) | (refine acond_t (b10) ?_; conv => whnf))
            refine ACall.mono hty ?_; rintro r0 H ⟨rfl, rfl⟩
            conv => whnf
            repeat (first | (refine acond_f (g1) ?_; conv => whnf) | (refine acond_t (bx) ?_; conv => whnf) | (refine acond_f (bl) ?_; conv => whnf) | (refine acond_f (by_) ?_; conv => whnf) | (refine acond_t (b8) ?_; conv => whnf) | (refine acond_t (b9) ?_; conv => whnf) | (refine acond_t (b10) ?_; conv => whnf))
            refine ACall.mono hs ?_; rintro r0 H ⟨rfl, rfl⟩
            conv => whnf
            repeat (first | (refine acond_f (g1) ?_; conv => whnf) | (refine acond_t (bx) ?_; conv => whnf) | (refine acond_f (bl) ?_; conv => whnf) | (refine acond_f (by_) ?_; conv => whnf) | (refine acond_t (b8) ?_; conv => whnf) | (refine acond_t (b9) ?_; conv => whnf) | (refine acond_t (b10) ?_; conv => whnf))
            refine ACall.mono aw ?_; rintro r0 H ⟨rfl, rfl⟩
            conv => whnf
            repeat (first | (refine acond_f (g1) ?_; conv => whnf) | (refine acond_t (bx) ?_; conv => whnf) | (refine acond_f (bl) ?_; conv => whnf) | (refine acond_f (by_) ?_; conv => whnf) | (refine acond_t (b8) ?_; conv => whnf) | (refine acond_t (b9) ?_; conv => whnf) | (refine acond_t (b10) ?_; conv => whnf))
            exact ⟨rfl, rfl⟩
      · have bx : (ex == 0) = false := by simpa using ex0
        by_cases ey0 : ey = 0
        · have by_ : (ey == 0) = true := by simpa using ey0
          conv => whnf
          refine ACall.mono fl ?_; rintro r0 H ⟨rfl, rfl⟩
          conv => whnf
          repeat (first | (refine acond_f (g1) ?_; conv => whnf) | (refine acond_f (bx) ?_; conv => whnf) | (refine acond_t (by_) ?_; conv => whnf) | (refine acond_t (b8) ?_; conv => whnf) | (refine acond_t (b9) ?_; conv => whnf) | (refine acond_t (b10) ?_; conv => whnf))
          refine ACall.mono fm ?_; rintro r0 H ⟨rfl, rfl⟩
          conv => whnf
          repeat (first | (refine acond_f (g1) ?_; conv => whnf) | (refine acond_f (bx) ?_; conv => whnf) | (refine acond_t (by_) ?_; conv => whnf) | (refine acond_t (b8) ?_; conv => whnf) | (refine acond_t (b9) ?_; conv => whnf) | (refine acond_t (b10) ?_; conv => whnf))
          refine ACall.mono tl ?_; rintro r0 H ⟨rfl, rfl⟩
          conv => whnf
          repeat (first | (refine acond_f (g1) ?_; conv => whnf) | (refine acond_f (bx) ?_; conv => whnf) | (refine acond_t (by_) ?_; conv => whnf) | (refine acond_t (b8) ?_; conv => whnf) | (refine acond_t (b9) ?_; conv => whnf) | (refine acond_t (b10) ?_; conv => whnf))
          refine ACall.mono tm ?_; rintro r0 H ⟨rfl, rfl⟩
          conv => whnf
          repeat (first | (refine acond_f (g1) ?_; conv => whnf) | (refine acond_f (bx) ?_; conv => whnf) | (refine acond_t (by_) ?_; conv => whnf) | (refine acond_t (b8) ?_; conv => whnf) | (refine acond_t (b9) ?_; conv => whnf) | (refine acond_t (b10) ?_; conv => whnf))
          refine ACall.mono htx ?_; rintro r0 H ⟨rfl, rfl⟩
          conv => whnf
          repeat (first | (refine acond_f (g1) ?_; conv => whnf) | (refine acond_f (bx) ?_; conv => whnf) | (refine acond_t (by_) ?_; conv => whnf) | (refine acond_t (b8) ?_; conv => whnf) | (refine acond_t (b9) ?_; conv => whnf) | (refine acond_t (b10) ?_; conv => whnf))
          refine ACall.mono hty ?_; rintro r0 H ⟨rfl, rfl⟩
          conv => whnf
          repeat (first | (refine acond_f (g1) ?_; conv => whnf) | (refine acond_f (bx) ?_; conv => whnf) | (refine acond_t (by_) ?_; conv => whnf) | (refine acond_t (b8) ?_; conv => whnf) | (refine acond_t (b9) ?_; conv => whnf) | (refine acond_t (b10) ?_; conv => whnf))
          refine ACall.mono hs ?_; rintro r0 H ⟨rfl, rfl⟩
          conv => whnf
          repeat (first | (refine acond_f (g1) ?_; conv => whnf) | (refine acond_f (bx) ?_; conv => whnf) | (refine acond_t (by_) ?_; conv => whnf) | (refine acond_t (b8) ?_; conv => whnf) | (refine acond_t (b9) ?_; conv => whnf) | (refine acond_t (b10) ?_; conv => whnf))
          refine ACall.mono aw ?_; rintro r0 H ⟨rfl, rfl⟩
          conv => whnf
          repeat (first | (refine acond_f (g1) ?_; conv => whnf) | (refine acond_f (bx) ?_; conv => whnf) | (refine acond_t (by_) ?_; conv => whnf) | (refine acond_t (b8) ?_; conv => whnf) | (refine acond_t (b9) ?_; conv => whnf) | (refine acond_t (b10) ?_; conv => whnf))
          exact ⟨rfl, rfl⟩
        · have by_ : (ey == 0) = false := by simpa using ey0
          conv => whnf
          refine ACall.mono fl ?_; rintro r0 H ⟨rfl, rfl⟩
          conv => whnf
          repeat (first | (refine acond_f (g1) ?_; conv => whnf) | (refine acond_f (bx) ?_; conv => whnf) | (refine acond_f (by_) ?_; conv => whnf) | (refine acond_t (b8) ?_; conv => whnf) | (refine acond_t (b9) ?_; conv => whnf) | (refine acond_t (b10) ?_; conv => whnf))
          refine ACall.mono fm ?_; rintro r0 H ⟨rfl, rfl⟩
          conv => whnf
          repeat (first | (refine acond_f (g1) ?_; conv => whnf) | (refine acond_f (bx) ?_; conv => whnf) | (refine acond_f (by_) ?_; conv => whnf) | (refine acond_t (b8) ?_; conv => whnf) | (refine acond_t (b9) ?_; conv => whnf) | (refine acond_t (b10) ?_; conv => whnf))
          refine ACall.mono tl ?_; rintro r0 H ⟨rfl, rfl⟩
          conv => whnf
          repeat (first | (refine acond_f (g1) ?_; conv => whnf) | (refine acond_f (bx) ?_; conv => whnf) | (refine acond_f (by_) ?_; conv => whnf) | (refine acond_t (b8) ?_; conv => whnf) | (refine acond_t (b9) ?_; conv => whnf) | (refine acond_t (b10) ?_; conv => whnf))
          refine ACall.mono tm ?_; rintro r0 H ⟨rfl, rfl⟩
          conv => whnf
          repeat (first | (refine acond_f (g1) ?_; conv => whnf) | (refine acond_f (bx) ?_; conv => whnf) | (refine acond_f (by_) ?_; conv => whnf) | (refine acond_t (b8) ?_; conv => whnf) | (refine acond_t (b9) ?_; conv => whnf) | (refine acond_t (b10) ?_; conv => whnf))
          refine ACall.mono htx ?_; rintro r0 H ⟨rfl, rfl⟩
          conv => whnf
          repeat (first | (refine acond_f (g1) ?_; conv => whnf) | (refine acond_f (bx) ?_; conv => whnf) | (refine acond_f (by_) ?_; conv => whnf) | (refine acond_t (b8) ?_; conv => whnf) | (refine acond_t (b9) ?_; conv => whnf) | (refine acond_t (b10) ?_; conv => whnf))
          refine ACall.mono hty ?_; rintro r0 H ⟨rfl, rfl⟩
          conv => whnf
          repeat (first | (refine acond_f (g1) ?_; conv => whnf) | (refine acond_f (bx) ?_; conv => whnf) | (refine acond_f (by_) ?_; conv => whnf) | (refine acond_t (b8) ?_; conv => whnf) | (refine acond_t (b9) ?_; conv => whnf) | (refine acond_t (b10) ?_; conv => whnf))
          refine ACall.mono hs ?_; rintro r0 H ⟨rfl, rfl⟩
          conv => whnf
          repeat (first | (refine acond_f (g1) ?_; conv => whnf) | (refine acond_f (bx) ?_; conv => whnf) | (refine acond_f (by_) ?_; conv => whnf) | (refine acond_t (b8) ?_; conv => whnf) | (refine acond_t (b9) ?_; conv => whnf) | (refine acond_t (b10) ?_; conv => whnf))
          refine ACall.mono aw ?_; rintro r0 H ⟨rfl, rfl⟩
          conv => whnf
          repeat (first | (refine acond_f (g1) ?_; conv => whnf) | (refine acond_f (bx) ?_; conv => whnf) | (refine acond_f (by_) ?_; conv => whnf) | (refine acond_t (b8) ?_; conv => whnf) | (refine acond_t (b9) ?_; conv => whnf) | (refine acond_t (b10) ?_; conv => whnf))
          exact ⟨rfl, rfl⟩
  · cases hfl : fewB l with
    | false =>
      rw [hfl] at fl
      conv => whnf
      refine ACall.mono fl ?_; rintro r0 H ⟨rfl, rfl⟩
      conv => whnf
      refine ACall.mono aw ?_; rintro r0 H ⟨rfl, rfl⟩
      conv => whnf
      exact ⟨rfl, rfl⟩
    | true =>
      rw [hfl] at fl
      cases hfm : fewB m with
      | false =>
        rw [hfm] at fm
        conv => whnf
        refine ACall.mono fl ?_; rintro r0 H ⟨rfl, rfl⟩
        conv => whnf
        refine ACall.mono fm ?_; rintro r0 H ⟨rfl, rfl⟩
        conv => whnf
        refine ACall.mono aw ?_; rintro r0 H ⟨rfl, rfl⟩
        conv => whnf
        exact ⟨rfl, rfl⟩
      | true =>
        rw [hfm] at fm
        have g1 : decide (((sb s).size : Int) > 1000) = true := decide_eq_true (by
          have : ¬ s.length ≤ 1000 := fun h => hgo ⟨hfl, hfm, h⟩
          rw [sb_size]; omega)
        conv => whnf
        refine ACall.mono fl ?_; rintro r0 H ⟨rfl, rfl⟩
        conv => whnf
        refine ACall.mono fm ?_; rintro r0 H ⟨rfl, rfl⟩
        conv => whnf
        repeat (first | (refine acond_t (g1) ?_; conv => whnf))
        refine ACall.mono aw ?_; rintro r0 H ⟨rfl, rfl⟩
        conv => whnf
        exact ⟨rfl, rfl⟩
theorem exprBack_top (l : List Nod) (hl : l.length ≤ maxLen) (okl : ∀ a ∈ l, a.ok) (m : List Nod) (hm : m.length ≤ maxLen) (okm : ∀ a ∈ m, a.ok) (s : ByteArray) :
    ACall Tryd.prog 5 [.rs (nods l) 0 6 l.length, .rs (nods m) 0 6 m.length, .s s] [] fun R H => R = .ret (.b true) ∧ H = [] :=
  exprBack_spec l m (maxLen_lt hl) (maxLen_lt hm) okl okm s.data.toList
end Go.AK
namespace Go.AK
open Go Go.RowKit Go.Proofs
set_option linter.unusedVariables false
set_option maxRecDepth 100000
/-! Nots, and parentheses. -/
def notN : Nat → Ex
  | 0 => .nd 6 [] [] 0 .nil .nil
  | n + 1 => .nd 1 [] [] 0 (notN n) .nil
theorem notN_GT : ∀ n, GT (notN n)
  | 0 => .tru
  | n + 1 => .not _ (notN_GT n)
theorem notN_okN : ∀ n, (notN n).okN
  | 0 => ⟨by decide, trivial, trivial⟩
  | n + 1 => ⟨by decide, notN_okN n, trivial⟩
theorem notN_depth : ∀ n, (notN n).depth = n + 1
  | 0 => rfl
  | n + 1 => by simp only [notN, Ex.depth, notN_depth n]; omega
theorem notN_check (n : Nat) : (notN n).checkE = if n < 64 then 0 else 12 := by
  unfold Ex.checkE
  rw [(notN_GT n).ne, notN_depth, (notN_GT n).treeE]
  by_cases h : n < 64
  · rw [if_pos h, if_neg (by decide), if_neg (by omega)]
  · rw [if_neg h, if_neg (by decide), if_pos (by omega)]
theorem notN_wt : ∀ n, (notN n).wt = 40 * (n + 1)
  | 0 => rfl
  | n + 1 => by simp only [notN, Ex.wt, notN_wt n, List.length_nil]; omega
def notsS : Nat → Str
  | 0 => wTrue
  | n + 1 => wNotS ++ notsS n
theorem notsS_len : ∀ n, (notsS n).length = 4 * n + 4
  | 0 => rfl
  | n + 1 => by simp only [notsS, List.length_append, notsS_len n]; show 4 + _ = _; omega
theorem notN_txt : ∀ (n : Nat) (c : Int), c ≤ 3 → (notN n).txt c = notsS n
  | 0, c, h => by
    have : decide (bindsI 6 < c) = false := by simp only [decide_eq_false_iff_not]; show ¬ (4 : Int) < c; omega
    simp only [notN, Ex.txt, this]; rfl
  | n + 1, c, h => by
    have : decide (bindsI 1 < c) = false := by simp only [decide_eq_false_iff_not]; show ¬ (3 : Int) < c; omega
    simp only [notN, Ex.txt, this, notN_txt n 3 (by decide)]; rfl
theorem notN_tk : ∀ (n : Nat) (c : Int), c ≤ 3 → (notN n).tk c = List.replicate n wNot ++ [wTrue]
  | 0, c, h => by
    have : decide (bindsI 6 < c) = false := by simp only [decide_eq_false_iff_not]; show ¬ (4 : Int) < c; omega
    simp only [notN, Ex.tk, this]; rfl
  | n + 1, c, h => by
    have : decide (bindsI 1 < c) = false := by simp only [decide_eq_false_iff_not]; show ¬ (3 : Int) < c; omega
    simp only [notN, Ex.tk, this, notN_tk n 3 (by decide)]; rfl
theorem notN_pp (o : Nat) : ∀ (n : Nat) (A B : List Tok), A.map Prod.fst = List.replicate n wNot ++ [wTrue] → PP .not o (A ++ B) (.ok (notN n) B)
  | 0, A, B, h => by
    obtain ⟨a, A1, rfl, ha, hA⟩ := map_cons h
    have : A1 = [] := by simpa using hA
    subst this
    exact PP.not_opd (by show a.1 ≠ _; rw [ha]; decide) (PP.bool 6 (.inl ⟨ha, rfl⟩))
  | n + 1, A, B, h => by
    rw [List.replicate_succ, List.cons_append] at h
    obtain ⟨a, A1, rfl, ha, hA⟩ := map_cons h
    exact PP.not ha (notN_pp o n A1 B hA)
def parS (m : Nat) (t : Str) : Str := List.replicate m 40 ++ t ++ List.replicate m 41
theorem parS_succ (m : Nat) (t : Str) : parS (m + 1) t = 40 :: (parS m t ++ [41]) := by
  unfold parS
  rw [List.replicate_succ, List.replicate_succ', List.cons_append, List.cons_append, List.append_assoc, List.append_assoc, List.append_assoc]
theorem parS_len (m : Nat) (t : Str) : (parS m t).length = 2 * m + t.length := by
  unfold parS; simp only [List.length_append, List.length_replicate]; omega
/-- Any expression in parentheses. -/
theorem pars_pp {x : Ex} {ws : List Str} (hx : ∀ (o : Nat) (A B : List Tok), A.map Prod.fst = ws → (hdT B).1 ≠ wAnd → (hdT B).1 ≠ wOr → o ≤ 64 → PP .or o (A ++ B) (.ok x B)) :
    ∀ (m o : Nat) (A B : List Tok), o + m ≤ 64 → A.map Prod.fst = List.replicate m [40] ++ ws ++ List.replicate m [41] → (hdT B).1 ≠ wAnd → (hdT B).1 ≠ wOr → PP .or o (A ++ B) (.ok x B)
  | 0, o, A, B, ho, h, h1, h2 => hx o A B (by simpa using h) h1 h2 (by omega)
  | m + 1, o, A, B, ho, h, h1, h2 => by
    rw [List.replicate_succ, List.replicate_succ', List.cons_append, List.cons_append, ← List.append_assoc] at h
    obtain ⟨a, A1, rfl, ha, hA⟩ := map_cons h
    obtain ⟨A2, A3, rfl, hA2, hA3⟩ := map_app hA
    obtain ⟨b, A4, rfl, hb, hA4⟩ := map_cons hA3
    have : A4 = [] := by simpa using hA4
    subst this
    have hp := pars_pp hx m (o + 1) A2 (b :: B) (by omega) hA2 (by show b.1 ≠ _; rw [hb]; decide) (by show b.1 ≠ _; rw [hb]; decide)
    have hq := PP.paren (o := o) (L := a :: (A2 ++ [b] ++ B)) (L1 := b :: B) (x := x) ha (by omega) (by rw [List.tail_cons, List.append_assoc]; exact hp) hb
    exact PP.or (PP.and (PP.not_opd (by show a.1 ≠ _; rw [ha]; decide) hq) (PP.andL_end h1)) (PP.orL_end h2)
theorem lexAny_rep (c : UInt8) (h : LexAny [c] [[c]]) : ∀ m : Nat, LexAny (List.replicate m c) (List.replicate m [c])
  | 0 => fun rest p => ⟨[], rfl, rfl⟩
  | m + 1 => by
    rw [List.replicate_succ, List.replicate_succ]
    exact LexAny.append h (lexAny_rep c h m)
theorem lexTo_pars {t : Str} {ws : List Str} (h : LexTo t ws) (m : Nat) : LexTo (parS m t) (List.replicate m [40] ++ ws ++ List.replicate m [41]) := by
  cases m with
  | zero => simpa [parS] using h
  | succ m =>
    unfold parS
    exact LexTo.append (LexAny.app_to (lexAny_rep 40 lexAny_open (m + 1)) h) (.inr rfl) (lexAny_rep 41 lexAny_close (m + 1)).to
theorem lexTo_end {t : Str} {ws : List Str} (h : LexTo t ws) : ∃ A : List Tok, A.map Prod.fst = ws ∧ lexS t 0 = A ++ [([], t.length)] := by
  obtain ⟨A, a1, a2⟩ := h [] 0 (.inl rfl)
  refine ⟨A, a1, ?_⟩
  rw [List.append_nil] at a2
  rw [a2, lexS_nil, Nat.zero_add]
theorem deep_ok (n m : Nat) (hm : m ≤ 64) (hl : n ≤ 1000) : parseE (parS m (notsS n)) = if n < 64 then (notN n, 0, 0) else (.nil, 0, 12) := by
  have hlx : LexTo (notsS n) (List.replicate n wNot ++ [wTrue]) := by
    have := lexTo_txt (notN_GT n) (notN_okN n) (Nat.le_refl 1) 0
    rw [exb_one, notN_txt n 0 (by decide), notN_tk n 0 (by decide)] at this
    exact this
  obtain ⟨A, a1, a2⟩ := lexTo_end (lexTo_pars hlx m)
  have hp := pars_pp (x := notN n) (ws := List.replicate n wNot ++ [wTrue]) (fun o A B hA h1 h2 ho => PP.or (PP.and (notN_pp o n A B hA) (PP.andL_end h1)) (PP.orL_end h2)) m 0 A [([], (parS m (notsS n)).length)] (by omega) a1 (show ([] : Str) ≠ wAnd by decide) (show ([] : Str) ≠ wOr by decide)
  rw [← a2] at hp
  rw [parseE_of (by rw [parS_len, notsS_len]; omega) hp]
  show (if ([] : Str) ≠ [] then (Ex.nil, (parS m (notsS n)).length, (11 : Int)) else if 64 < (notN n).depth then (.nil, 0, 12) else (notN n, 0, 0)) = _
  rw [if_neg (by simp), notN_depth]
  by_cases h : n < 64
  · rw [if_pos h, if_neg (by omega)]
  · rw [if_neg h, if_pos (by omega)]
theorem open_hd (r : Str) (p : Nat) : lexS (40 :: r) p = ([40], p) :: lexS r (p + 1) := by
  have := lex_tok (t := [40]) (rest := r) p (by simp) (by decide) (par_len 40 (.inl rfl) r)
  exact this
theorem long_pp (t : Str) : ∀ (j o p : Nat), o + j = 64 → PP .or o (lexS (List.replicate (j + 1) 40 ++ t) p) (.err (p + j) 12)
  | 0, o, p, h => by
    have : o = 64 := by omega
    subst this
    show PP .or 64 (lexS (40 :: t) p) _
    rw [open_hd]
    exact PP.or_err (PP.and_err (PP.not_opd (show ([40] : Str) ≠ wNot by decide) (PP.long rfl)))
  | j + 1, o, p, h => by
    rw [List.replicate_succ, List.cons_append, open_hd]
    have := long_pp t j (o + 1) (p + 1) (by omega)
    rw [show p + 1 + j = p + (j + 1) from by omega] at this
    exact PP.or_err (PP.and_err (PP.not_opd (show ([40] : Str) ≠ wNot by decide) (PP.paren_err rfl (by omega) this)))
theorem deep_long (n m : Nat) (hm : 64 < m) (hl : n ≤ 1000) (hm2 : m ≤ 1000) : parseE (parS m (notsS n)) = (.nil, 64, 12) := by
  have hp := long_pp (List.replicate (m - 65) 40 ++ notsS n ++ List.replicate m 41) 64 0 0 (by omega)
  have e : List.replicate (64 + 1) (40 : UInt8) ++ (List.replicate (m - 65) 40 ++ notsS n ++ List.replicate m 41) = parS m (notsS n) := by
    unfold parS
    rw [← List.append_assoc, ← List.append_assoc, List.replicate_append_replicate, show 64 + 1 + (m - 65) = m from by omega]
  rw [e] at hp
  rw [parseE_of (by rw [parS_len, notsS_len]; omega) hp]; rfl
theorem open_pp : ∀ (j o p : Nat), o + j ≤ 64 → PP .or o (lexS (List.replicate j 40) p) (.err (p + j) 11)
  | 0, o, p, h => by
    show PP .or o [([], p)] (.err (p + 0) 11)
    exact PP.or_err (PP.and_err (PP.not_opd (show ([] : Str) ≠ wNot by decide) (PP.wrong rfl)))
  | j + 1, o, p, h => by
    rw [List.replicate_succ, open_hd]
    have := open_pp j (o + 1) (p + 1) (by omega)
    rw [show p + 1 + j = p + (j + 1) from by omega] at this
    exact PP.or_err (PP.and_err (PP.not_opd (show ([40] : Str) ≠ wNot by decide) (PP.paren_err rfl (by omega) this)))
theorem deep_open (m : Nat) (hm : m ≤ 64) : parseE (List.replicate m 40) = (.nil, m, 11) := by
  have hp := open_pp m 0 0 (by omega)
  rw [parseE_of (by rw [List.length_replicate]; omega) hp, Nat.zero_add]; rfl
end Go.AK
namespace Go.AK
open Go Go.RowKit Go.Proofs
set_option linter.unusedVariables false
set_option maxRecDepth 100000
/-! Three operands in parentheses, joined. -/
def notX (b : Bool) (x : Ex) : Ex := if b = true then .nd 1 [] [] 0 x .nil else x
def txtB (b : Bool) (t : Str) : Str := (if b = true then wNotS else []) ++ ([40] ++ (t ++ [41]))
def sepB (b : Bool) : Str := if b = true then wAndS else wOrS
def opdTk (b : Bool) (x : Ex) : List Str := (if b = true then [wNot] else []) ++ [40] :: (x.tk 0 ++ [[41]])
def wB (b : Bool) : Str := if b = true then wAnd else wOr
def kB (b : Bool) : Int := if b = true then 2 else 3
def joinB (a0 a1 : Bool) (x y z : Ex) : Ex := if a1 = true ∧ a0 = false then .nd 3 [] [] 0 x (.nd 2 [] [] 0 y z) else .nd (kB a1) [] [] 0 (.nd (kB a0) [] [] 0 x y) z
theorem tk_low (x : Ex) : x.tk 0 = x.tk 1 := by
  cases x with
  | nil => rfl
  | nd k w o n l r =>
    have h0 : decide (bindsI k < 0) = false := by
      unfold bindsI; split
      · rfl
      split
      · rfl
      split <;> rfl
    simp only [Ex.tk, h0, show decide (bindsI k < 1) = false from by unfold bindsI; split <;> (try split) <;> (try split) <;> rfl]
theorem opd_N {x : Ex} (h : GT x) (hn : x.okN) (hd : x.depth ≤ 64) (b : Bool) : ∀ A B : List Tok, A.map Prod.fst = opdTk b x → PP .not 0 (A ++ B) (.ok (notX b x) B) := by
  have hp := paren_N (x := x) (o := 0) (x.tk 0) (by decide) trivial fun A B hA h1 h2 => (round h hn 1 (by omega)).O A B _ (by rw [hA, tk_low]) h1 (PP.orL_end h2)
  intro A B hA
  cases b with
  | false => exact hp A B hA
  | true =>
    obtain ⟨a, A1, rfl, ha, hA1⟩ := map_cons (show A.map Prod.fst = wNot :: ([40] :: (x.tk 0 ++ [[41]])) from hA)
    exact PP.not ha (hp A1 B hA1)
theorem opd_lex {x : Ex} (h : GT x) (hn : x.okN) (b : Bool) : LexTo (txtB b (x.txt 0)) (opdTk b x) := by
  have h1 := lexTo_txt h hn (Nat.le_refl 1) 0
  rw [exb_one] at h1
  have h2 : LexTo ([40] ++ (x.txt 0 ++ [41])) ([[40]] ++ (x.tk 0 ++ [[41]])) := LexAny.app_to lexAny_open (LexTo.append h1 (.inr rfl) lexAny_close.to)
  cases b with
  | false => exact h2
  | true =>
    have h3 := lexAny_word (w := wNot) (by decide) (by decide) (Nat.le_refl 1)
    exact LexAny.app_to (t := wNotS) (ws := [wNot]) h3 h2
theorem sep_LA (b : Bool) : LexAny (sepB b) [wB b] ∧ (sepB b).head? = some 32 := by
  cases b with
  | false =>
    have := sep_lex (w := wOr) (by decide) (by decide) (Nat.le_refl 1)
    rw [exb_one] at this; exact this
  | true =>
    have := sep_lex (w := wAnd) (by decide) (by decide) (Nat.le_refl 1)
    rw [exb_one] at this; exact this
def textB (a0 a1 n0 n1 n2 : Bool) (t0 t1 t2 : Str) : Str := txtB n0 t0 ++ (sepB a0 ++ (txtB n1 t1 ++ (sepB a1 ++ txtB n2 t2)))
theorem head_app {u v : Str} {c : UInt8} (h : u.head? = some c) : (u ++ v).head? = some c := by
  cases u with
  | nil => cases h
  | cons a u => exact h
theorem binds_parse {x y z : Ex} (hx : GT x) (nx : x.okN) (dx : x.depth ≤ 60) (hy : GT y) (ny : y.okN) (dy : y.depth ≤ 60) (hz : GT z) (nz : z.okN) (dz : z.depth ≤ 60) (a0 a1 n0 n1 n2 : Bool)
    (lx : (x.txt 0).length ≤ 1000) (ly : (y.txt 0).length ≤ 1000) (lz : (z.txt 0).length ≤ 1000) :
    parseE (textB a0 a1 n0 n1 n2 (x.txt 0) (y.txt 0) (z.txt 0)) = (joinB a0 a1 (notX n0 x) (notX n1 y) (notX n2 z), 0, 0) := by
  have l0 : (textB a0 a1 n0 n1 n2 (x.txt 0) (y.txt 0) (z.txt 0)).length ≤ 8192 := by
    have hb : ∀ (b : Bool) (t : Str), (txtB b t).length ≤ t.length + 6 := by
      intro b t
      cases b
      · simp only [txtB, List.length_append, List.length_cons, List.length_nil]; show 0 + _ ≤ _; omega
      · simp only [txtB, List.length_append, List.length_cons, List.length_nil]; show 4 + _ ≤ _; omega
    have hs : ∀ b, (sepB b).length ≤ 5 := by intro b; cases b <;> decide
    have := hb n0 (x.txt 0); have := hb n1 (y.txt 0); have := hb n2 (z.txt 0); have := hs a0; have := hs a1
    simp only [textB, List.length_append]; omega
  have hl : LexTo (textB a0 a1 n0 n1 n2 (x.txt 0) (y.txt 0) (z.txt 0)) (opdTk n0 x ++ ([wB a0] ++ (opdTk n1 y ++ ([wB a1] ++ opdTk n2 z)))) := by
    refine LexTo.append (opd_lex hx nx n0) (.inl (head_app (sep_LA a0).2)) (LexAny.app_to (sep_LA a0).1 ?_)
    exact LexTo.append (opd_lex hy ny n1) (.inl (head_app (sep_LA a1).2)) (LexAny.app_to (sep_LA a1).1 (opd_lex hz nz n2))
  obtain ⟨A, a1', a2'⟩ := lexTo_end hl
  have a1' : A.map Prod.fst = opdTk n0 x ++ (wB a0 :: (opdTk n1 y ++ (wB a1 :: opdTk n2 z))) := a1'
  obtain ⟨A0, B0, rfl, e0, f0⟩ := map_app a1'
  obtain ⟨w0, B1, rfl, g0, f1⟩ := map_cons f0
  obtain ⟨A1, B2, rfl, e1, f2⟩ := map_app f1
  obtain ⟨w1, A2, rfl, g1, e2⟩ := map_cons f2
  have X := opd_N hx nx (by omega) n0
  have Y := opd_N hy ny (by omega) n1
  have Z := opd_N hz nz (by omega) n2
  have E : ([] : Str) ≠ wAnd ∧ ([] : Str) ≠ wOr := by decide
  have dn : ∀ (b : Bool) (u : Ex), u.depth ≤ 60 → (notX b u).depth ≤ 61 := by
    intro b u hu
    cases b
    · show u.depth ≤ 61; omega
    · show 1 + max u.depth 0 ≤ 61; omega
  have d0 := dn n0 x dx; have d1 := dn n1 y dy; have d2 := dn n2 z dz
  generalize notX n0 x = x at X d0 ⊢
  generalize notX n1 y = y at Y d1 ⊢
  generalize notX n2 z = z at Z d2 ⊢
  generalize (textB a0 a1 n0 n1 n2 _ _ _) = t at l0 a2' ⊢
  have Zend := Z A2 [([], t.length)] e2
  have key : PP .or 0 (lexS t 0) (.ok (joinB a0 a1 x y z) [([], t.length)]) := by
    rw [a2']
    have r1 : A0 ++ w0 :: (A1 ++ w1 :: A2) ++ [([], t.length)] = A0 ++ (w0 :: (A1 ++ (w1 :: (A2 ++ [([], t.length)])))) := by simp
    rw [r1]
    have X0 := X A0 (w0 :: (A1 ++ (w1 :: (A2 ++ [([], t.length)])))) e0
    have Y0 := Y A1 (w1 :: (A2 ++ [([], t.length)])) e1
    have nao : wOr ≠ wAnd := by decide
    have noa : wAnd ≠ wOr := by decide
    cases a0 with
    | true =>
      have g0 : w0.1 = wAnd := g0
      cases a1 with
      | true =>
        have g1 : w1.1 = wAnd := g1
        exact PP.or (PP.and X0 (PP.andL g0 Y0 (PP.andL g1 Zend (PP.andL_end E.1)))) (PP.orL_end E.2)
      | false =>
        have g1 : w1.1 = wOr := g1
        refine PP.or (PP.and X0 (PP.andL g0 Y0 (PP.andL_end (by show w1.1 ≠ _; rw [g1]; exact nao)))) ?_
        exact PP.orL g1 (PP.and Zend (PP.andL_end E.1)) (PP.orL_end E.2)
    | false =>
      have g0 : w0.1 = wOr := g0
      have hX := PP.and X0 (PP.andL_end (by show w0.1 ≠ _; rw [g0]; exact nao))
      cases a1 with
      | true =>
        have g1 : w1.1 = wAnd := g1
        exact PP.or hX (PP.orL g0 (PP.and Y0 (PP.andL g1 Zend (PP.andL_end E.1))) (PP.orL_end E.2))
      | false =>
        have g1 : w1.1 = wOr := g1
        refine PP.or hX (PP.orL g0 (PP.and Y0 (PP.andL_end (by show w1.1 ≠ _; rw [g1]; exact nao))) ?_)
        exact PP.orL g1 (PP.and Zend (PP.andL_end E.1)) (PP.orL_end E.2)
  rw [parseE_of l0 key]
  have dj : (joinB a0 a1 x y z).depth ≤ 64 := by
    unfold joinB
    split
    · simp only [Ex.depth]; omega
    · simp only [Ex.depth]; omega
  show (if ([] : Str) ≠ [] then (Ex.nil, t.length, (11 : Int)) else if 64 < (joinB a0 a1 x y z).depth then (.nil, 0, 12) else (joinB a0 a1 x y z, 0, 0)) = _
  rw [if_neg (by simp), if_neg (by omega)]
end Go.AK
namespace Go.AK
open Go Go.RowKit Go.Proofs
set_option linter.unusedVariables false
set_option maxRecDepth 100000
/-! An expression's text with more blanks, and in parentheses; and what a part of it is parsed as. -/
theorem pars_pp2 {x : Ex} {ws : List Str} (M : Nat) (hM : M ≤ 64) (hx : ∀ (o : Nat) (A B : List Tok), A.map Prod.fst = ws → (hdT B).1 ≠ wAnd → (hdT B).1 ≠ wOr → o ≤ M → PP .or o (A ++ B) (.ok x B)) :
    ∀ (m o : Nat) (A B : List Tok), o + m ≤ M → A.map Prod.fst = List.replicate m [40] ++ ws ++ List.replicate m [41] → (hdT B).1 ≠ wAnd → (hdT B).1 ≠ wOr → PP .or o (A ++ B) (.ok x B)
  | 0, o, A, B, ho, h, h1, h2 => hx o A B (by simpa using h) h1 h2 (by omega)
  | m + 1, o, A, B, ho, h, h1, h2 => by
    rw [List.replicate_succ, List.replicate_succ', List.cons_append, List.cons_append, ← List.append_assoc] at h
    obtain ⟨a, A1, rfl, ha, hA⟩ := map_cons h
    obtain ⟨A2, A3, rfl, hA2, hA3⟩ := map_app hA
    obtain ⟨b, A4, rfl, hb, hA4⟩ := map_cons hA3
    have : A4 = [] := by simpa using hA4
    subst this
    have hp := pars_pp2 M hM hx m (o + 1) A2 (b :: B) (by omega) hA2 (by show b.1 ≠ _; rw [hb]; decide) (by show b.1 ≠ _; rw [hb]; decide)
    have hq := PP.paren (o := o) (L := a :: (A2 ++ [b] ++ B)) (L1 := b :: B) (x := x) ha (by omega) (by rw [List.tail_cons, List.append_assoc]; exact hp) hb
    exact PP.or (PP.and (PP.not_opd (by show a.1 ≠ _; rw [ha]; decide) hq) (PP.andL_end h1)) (PP.orL_end h2)
def tailS : Nat → Str
  | 0 => []
  | m + 1 => tailS m ++ [32, 41]
def blankS (m k : Nat) (t : Str) : Str := List.replicate m 40 ++ exb k t ++ tailS m
theorem tailS_len : ∀ m, (tailS m).length = 2 * m
  | 0 => rfl
  | m + 1 => by rw [tailS, List.length_append, tailS_len m]; show 2 * m + 2 = _; omega
theorem exb_len (k : Nat) (hk : 1 ≤ k) : ∀ t : Str, (exb k t).length ≤ k * t.length
  | [] => Nat.zero_le _
  | c :: t => by
    have := exb_len k hk t
    rw [exb_cons, List.length_append, List.length_cons, Nat.mul_add]
    split
    · rw [List.length_replicate]; omega
    · show 1 + _ ≤ _; omega
theorem blankS_len (m k : Nat) (hk : 1 ≤ k) (t : Str) : (blankS m k t).length ≤ 3 * m + k * t.length := by
  have := exb_len k hk t
  simp only [blankS, List.length_append, List.length_replicate, tailS_len]; omega
theorem tail_lex : ∀ m : Nat, LexAny (tailS m) (List.replicate m [41])
  | 0 => fun rest p => ⟨[], rfl, rfl⟩
  | m + 1 => by
    have h1 : LexAny ([32] ++ [41]) ([] ++ [[41]]) := LexAny.append (lexAny_blanks 1) lexAny_close
    rw [tailS, List.replicate_succ']
    exact LexAny.append (tail_lex m) h1
theorem tailS_head (m : Nat) : (tailS (m + 1)).head? = some 32 := by
  induction m with
  | zero => rfl
  | succ m ih => rw [tailS]; exact head_app ih
theorem blank_lex {x : Ex} (h : GT x) (hn : x.okN) (m : Nat) {k : Nat} (hk : 1 ≤ k) : LexTo (blankS m k (x.txt 0)) (List.replicate m [40] ++ x.tk 0 ++ List.replicate m [41]) := by
  have h1 := lexTo_txt h hn hk 0
  cases m with
  | zero => simpa [blankS, tailS] using h1
  | succ m =>
    unfold blankS
    exact LexTo.append (LexAny.app_to (lexAny_rep 40 lexAny_open (m + 1)) h1) (.inl (tailS_head m)) (tail_lex (m + 1)).to
theorem blank_parse {x : Ex} (h : GT x) (hn : x.okN) (hd : x.depth < 60) {m k : Nat} (hm : m ≤ 3) (hk : 1 ≤ k) (hl : (blankS m k (x.txt 0)).length ≤ 8192) : parseE (blankS m k (x.txt 0)) = (x, 0, 0) := by
  obtain ⟨A, a1, a2⟩ := lexTo_end (blank_lex h hn m hk)
  have hp := pars_pp2 (x := x) (ws := x.tk 0) 3 (by decide) (fun o A B hA h1 h2 ho => (round h hn o (by omega)).O A B _ (by rw [hA, tk_low]) h1 (PP.orL_end h2)) m 0 A [([], (blankS m k (x.txt 0)).length)] (by omega) a1 (show ([] : Str) ≠ wAnd by decide) (show ([] : Str) ≠ wOr by decide)
  rw [← a2] at hp
  rw [parseE_of hl hp]
  show (if ([] : Str) ≠ [] then (Ex.nil, (blankS m k (x.txt 0)).length, (11 : Int)) else if 64 < x.depth then (.nil, 0, 12) else (x, 0, 0)) = _
  rw [if_neg (by simp), if_neg (by omega)]
theorem full_zero : ∀ {t : Str}, fullS t = 0 → ∀ c ∈ t, c = 32
  | [], _, c, h => by cases h
  | a :: t, h0, c, h => by
    rw [fullS] at h0
    have ha : a = 32 := by
      by_cases ha : a = 32
      · exact ha
      · rw [if_neg ha] at h0; omega
    rcases List.mem_cons.1 h with rfl | h
    · exact ha
    · exact full_zero (by omega) c h
/-- A part of the text that is parsed as the whole ends ahead of a blank. -/
theorem part_parse {x : Ex} (h : GT x) {n : Nat} (hn : n < (x.txt 0).length) (hp : parseE ((x.txt 0).take n) = (x, 0, 0)) : 0 < n ∧ (x.txt 0).getD n 0 = 32 := by
  obtain ⟨_, _, _, h1⟩ := (parse_use _).1 x hp
  have h2 := (txt_ful h 0).1
  have hs : fullS (x.txt 0) = fullS ((x.txt 0).take n) + fullS ((x.txt 0).drop n) := by rw [← fullS_append, List.take_append_drop]
  have hw := wt_ful h
  have hw1 : 40 ≤ x.wt := by
    cases x with
    | nil => cases h
    | nd k w o m l r => simp only [Ex.wt]; omega
  have hz : fullS ((x.txt 0).drop n) = 0 := by omega
  refine ⟨?_, ?_⟩
  · have : n ≠ 0 := by
      intro e
      subst e
      have : fullS ((x.txt 0).take 0) = 0 := rfl
      omega
    omega
  · refine full_zero hz _ ?_
    rw [List.getD_eq_getElem?_getD, List.getElem?_eq_getElem hn]
    exact List.mem_iff_getElem.2 ⟨0, by rw [List.length_drop]; omega, by simp⟩
end Go.AK
namespace Go.AK
open Go Go.RowKit Go.Proofs
set_option linter.unusedVariables false
set_option maxRecDepth 100000
/-! Arrays among a law's arguments. -/
theorem okWide_array {P : Program} {w : World} {r : Reach} {base : Nat} {t : TypeId} {v : Value} {n : Nat} {e : TypeId} (ht : P.underlying t = some (.array n e)) (h : Value.okWide P w r base t v) : ∃ cs, v = .agg cs ∧ cs.size = P.cellsOf t := by
  simp only [Value.okWide, ht] at h
  obtain ⟨cs, h1, h2, _⟩ := h
  exact ⟨cs, h1, h2⟩
def rowAV (l : List Nod) : AV := .rs (nods l) 0 6 l.length
theorem okT_n3 : ∀ fuel, okT T fuel 50 = true
  | 0 => rfl
  | 1 => rfl
  | 2 => rfl
  | 3 => rfl
  | n + 4 => rfl
theorem okT_b2 : ∀ fuel, okT T fuel 51 = true
  | 0 => rfl
  | 1 => rfl
  | n + 2 => rfl
theorem okT_b3 : ∀ fuel, okT T fuel 52 = true
  | 0 => rfl
  | 1 => rfl
  | n + 2 => rfl
theorem okT_i2 : ∀ fuel, okT T fuel 47 = true
  | 0 => rfl
  | 1 => rfl
  | n + 2 => rfl
def rowOK (l : List Nod) : Prop := l.length ≤ maxLen ∧ ∀ a ∈ l, a.ok
theorem WT_n3 : ∀ {fuel : Nat} {xs : List AV}, WT T fuel 50 xs → ∃ F : List Nod × List Nod × List Nod, xs = [rowAV F.1, rowAV F.2.1, rowAV F.2.2] ∧ rowOK F.1 ∧ rowOK F.2.1 ∧ rowOK F.2.2
  | 0, _, h => h.elim
  | n + 1, xs, h => by
    obtain ⟨y0, z0, rfl, h0, h⟩ := (show WTs (WT T n) [33, 33, 33] xs from h)
    obtain ⟨y1, z1, rfl, h1, h⟩ := h
    obtain ⟨y2, z2, rfl, h2, h⟩ := h
    obtain rfl := (show z2 = [] from h)
    obtain ⟨l0, rfl, a0⟩ := WT_nods h0
    obtain ⟨l1, rfl, a1⟩ := WT_nods h1
    obtain ⟨l2, rfl, a2⟩ := WT_nods h2
    exact ⟨(l0, l1, l2), rfl, a0, a1, a2⟩
theorem WT_b1 : ∀ {n : Nat} {ys : List AV}, WT T n 4 ys → ∃ b, ys = [.b b]
  | 0, _, h => h.elim
  | n + 1, ys, h => h
theorem WT_b2 : ∀ {fuel : Nat} {xs : List AV}, WT T fuel 51 xs → ∃ F : Bool × Bool, xs = [.b F.1, .b F.2] ∧ True
  | 0, _, h => h.elim
  | n + 1, xs, h => by
    obtain ⟨y0, z0, rfl, h0, h⟩ := (show WTs (WT T n) [4, 4] xs from h)
    obtain ⟨y1, z1, rfl, h1, h⟩ := h
    obtain rfl := (show z1 = [] from h)
    obtain ⟨a, rfl⟩ := WT_b1 h0
    obtain ⟨b, rfl⟩ := WT_b1 h1
    exact ⟨(a, b), rfl, trivial⟩
theorem WT_b3 : ∀ {fuel : Nat} {xs : List AV}, WT T fuel 52 xs → ∃ F : Bool × Bool × Bool, xs = [.b F.1, .b F.2.1, .b F.2.2] ∧ True
  | 0, _, h => h.elim
  | n + 1, xs, h => by
    obtain ⟨y0, z0, rfl, h0, h⟩ := (show WTs (WT T n) [4, 4, 4] xs from h)
    obtain ⟨y1, z1, rfl, h1, h⟩ := h
    obtain ⟨y2, z2, rfl, h2, h⟩ := h
    obtain rfl := (show z2 = [] from h)
    obtain ⟨a, rfl⟩ := WT_b1 h0
    obtain ⟨b, rfl⟩ := WT_b1 h1
    obtain ⟨c, rfl⟩ := WT_b1 h2
    exact ⟨(a, b, c), rfl, trivial⟩
theorem WT_j1 : ∀ {n : Nat} {ys : List AV}, WT T n 3 ys → ∃ m, ys = [.i .i64 m] ∧ (Lit.int .i64 m).wf = true
  | 0, _, h => h.elim
  | n + 1, ys, h => h
theorem WT_i2 : ∀ {fuel : Nat} {xs : List AV}, WT T fuel 47 xs → ∃ F : Int × Int, xs = [.i .i64 F.1, .i .i64 F.2] ∧ (-9223372036854775808 ≤ F.1 ∧ F.1 ≤ 9223372036854775807) ∧ (-9223372036854775808 ≤ F.2 ∧ F.2 ≤ 9223372036854775807)
  | 0, _, h => h.elim
  | n + 1, xs, h => by
    obtain ⟨y0, z0, rfl, h0, h⟩ := (show WTs (WT T n) [3, 3] xs from h)
    obtain ⟨y1, z1, rfl, h1, h⟩ := h
    obtain rfl := (show z1 = [] from h)
    obtain ⟨a, rfl, ha⟩ := WT_j1 h0
    obtain ⟨b, rfl, hb⟩ := WT_j1 h1
    exact ⟨(a, b), rfl, i64_in ha, i64_in hb⟩
end Go.AK
