/- Functions of the program, in plain Lean, and their walks (printed; half the indent). Conditions: none. -/
-- PRINTED by print.py (a twelfth state) out of the translation. Not trusted: Lean checks it.
import Derived.Test.YtakemodmdhglnaaPAx0
import Derived.Test.YtakemodmdhglnaaPAx22
namespace Go.Proofs.Ytakemodmdhglnaa.PA
open Go.RowKit Go.Proofs.YtakemodmdhglnaaW.PrintWords Go.Proofs.YtakemodmdhglnaaW.PrintLast Go.Proofs.YtakemodmdhglnaaW.PrintMore
attribute [local go_sem] max2_int min2_int max_two min_two max_three min_three max_four min_four   -- for this text's walks alone
set_option linter.unusedVariables false
set_option linter.unusedSimpArgs false

/-! ### magnetoref04_Widths: function 56 -/
mutual
def magnetoref04_Widths.j0 : Nat → List Int → Int → Int → Option (List Int)
 | 0, _, _, _ => none
 | k + 1, x0, x3, x4 => if (x0.length : Int) < (wrap64 ((wrap64 (1 + x3)) + x4)) then (some (([1, x3, x4] : List Int))) else (if 0 ≤ (wrap64 ((wrap64 (x3 + x4)) - 3)) then (if (wrap64 ((wrap64 (x3 + x4)) - 3)) ≤ (wrap64 ((wrap64 (x3 + x4)) + 1)) then (if (wrap64 ((wrap64 (x3 + x4)) + 1)) ≤ (x0.length : Int) then ((magnetoref04_Value.f k ((x0.take ((wrap64 ((wrap64 (x3 + x4)) + 1)) : Int).toNat).drop ((wrap64 ((wrap64 (x3 + x4)) - 3)) : Int).toNat)).bind fun t383 => (if t383 > 8 then (magnetoref04_Widths.j1 k x0 x3 x4 8) else (magnetoref04_Widths.j1 k x0 x3 x4 t383))) else (none)) else (none)) else (none))
def magnetoref04_Widths.j1 : Nat → List Int → Int → Int → Int → Option (List Int)
 | 0, _, _, _, _ => none
 | k + 1, x0, x3, x4, x5 => if 12 < (x0.length : Int) then (if 13 < (x0.length : Int) then (if (rd x0 13) = 1 then (if 32 < (x0.length : Int) then (if (rd x0 32) = 1 then (some (([1, x3, x4, 8 * 0, 15, 1, 1, 1, 7] : List Int))) else (some (([1, x3, x4, wrap64 (8 * x5), 15, 1, 1, 1, 7] : List Int)))) else (none)) else (if (rd x0 12) = 1 then (some (([1, x3, x4, 8 * 0, 15, 1, 1, 1, 7] : List Int))) else (some (([1, x3, x4, wrap64 (8 * x5), 15, 1, 1, 1, 7] : List Int))))) else (none)) else (none)
end
def magnetoref04_Widths.f (k : Nat) (l0 : List Int) : Option (List Int) := if (l0.length : Int) < 14 then (some (([1] : List Int))) else (if 13 < (l0.length : Int) then (if (rd l0 13) = 1 then (magnetoref04_Widths.j0 k l0 32 6) else (magnetoref04_Widths.j0 k l0 13 5)) else (none))
theorem magnetoref04_Widths.mono_l : ∀ k, (∀ y0 y1 y2, LeO (magnetoref04_Widths.j0 k y0 y1 y2) (magnetoref04_Widths.j0 (k + 1) y0 y1 y2)) ∧ (∀ y0 y1 y2 y3, LeO (magnetoref04_Widths.j1 k y0 y1 y2 y3) (magnetoref04_Widths.j1 (k + 1) y0 y1 y2 y3))
 | 0 => ⟨fun _ _ _ r h => by simp [magnetoref04_Widths.j0] at h, fun _ _ _ _ r h => by simp [magnetoref04_Widths.j1] at h⟩
 | k + 1 => by
  obtain ⟨ih0, ih1⟩ := magnetoref04_Widths.mono_l k
  refine ⟨?_, ?_⟩
  ·
   intro y0 y1 y2
   unfold magnetoref04_Widths.j0
   repeat' first
   | (with_reducible exact ih0 _ _ _)
   | (with_reducible exact ih1 _ _ _ _)
   | (with_reducible exact magnetoref04_Value.mono _ _)
   | (with_reducible exact LeO.refl _)
   | (with_reducible exact LeO.none _)
   | (with_reducible refine LeO.ite ?_ ?_)
   | (with_reducible refine LeO.bind ?_ (fun _ => ?_))
   | exact ih0 _ _ _
   | exact ih1 _ _ _ _
   | exact magnetoref04_Value.mono _ _
   | exact LeO.none _
   | refine LeO.ite ?_ ?_
   | refine LeO.bind ?_ (fun _ => ?_)
  ·
   intro y0 y1 y2 y3
   unfold magnetoref04_Widths.j1
   repeat' first
   | (with_reducible exact ih0 _ _ _)
   | (with_reducible exact ih1 _ _ _ _)
   | (with_reducible exact magnetoref04_Value.mono _ _)
   | (with_reducible exact LeO.refl _)
   | (with_reducible exact LeO.none _)
   | (with_reducible refine LeO.ite ?_ ?_)
   | (with_reducible refine LeO.bind ?_ (fun _ => ?_))
   | exact ih0 _ _ _
   | exact ih1 _ _ _ _
   | exact magnetoref04_Value.mono _ _
   | exact LeO.none _
   | refine LeO.ite ?_ ?_
   | refine LeO.bind ?_ (fun _ => ?_)
theorem magnetoref04_Widths.mono : ∀ a0 k, LeO (magnetoref04_Widths.f k a0) (magnetoref04_Widths.f (k + 1) a0) := by
 intro a0 k
 obtain ⟨ih0, ih1⟩ := magnetoref04_Widths.mono_l k
 unfold magnetoref04_Widths.f
 repeat' first
   | (with_reducible exact ih0 _ _ _)
   | (with_reducible exact ih1 _ _ _ _)
   | (with_reducible exact magnetoref04_Value.mono _ _)
   | (with_reducible exact LeO.refl _)
   | (with_reducible exact LeO.none _)
   | (with_reducible refine LeO.ite ?_ ?_)
   | (with_reducible refine LeO.bind ?_ (fun _ => ?_))
   | exact ih0 _ _ _
   | exact ih1 _ _ _ _
   | exact magnetoref04_Value.mono _ _
   | exact LeO.none _
   | refine LeO.ite ?_ ?_
   | refine LeO.bind ?_ (fun _ => ?_)
set_option maxHeartbeats 8000000 in
set_option maxRecDepth 100000 in
theorem magnetoref04_Widths.calls (k : Nat) (A0 : Option Addr) (c0 : Nat) (l0 : List Int) (r : List Int) (w : World) (hr0 : Kd.C (Kd.int .i64) w A0 l0.length l0) (hc0 : l0.length ≤ c0) (h : magnetoref04_Widths.f k l0 = some r) :
  Calls Try.prog 56 #[.slice A0 l0.length c0] w fun e w' => ∃ v0_ : Value, e = .returned (v0_) ∧ Kd.R (Kd.int .i64) 3 w' w.heap.size (fun _ => True) v0_ r ∧ Below w.heap.size w w' := by
 have HR0 := Aside0.mk hr0
 have HC0 := Aside0.mk hc0
 clear hr0 hc0
 have HB := Aside0.mk (Below.refl w.heap.size w)
 have H : (if (l0.length : Int) < 14 then (some (([1] : List Int))) else (if 13 < (l0.length : Int) then (if (rd l0 13) = 1 then (magnetoref04_Widths.j0 k l0 32 6) else (magnetoref04_Widths.j0 k l0 13 5)) else (none))) = some r := h
 clear h
 by_cases c2 : (l0.length : Int) < 14
 ·
  rw [if_pos c2] at H
  have c2b0 : decide ((l0.length : Int) < 14) = true := decide_eq_true c2
  have c2b1 : decide (l0.length < 14) = true := decide_eq_true (by omega)
  clear c2
  obtain ⟨y375, hy375⟩ : ∃ y_ : List Int, y_ = (([1] : List Int)) := ⟨_, rfl⟩
  replace H : (some y375) = some r := by first | (rw [hy375]; with_reducible exact H) | (have H2_ := (Option.bind_some _ _).symm.trans H; rw [hy375]; with_reducible exact H2_) | (have H2_ := (Option.bind_some _ _).symm.trans H; with_reducible exact H2_) | with_reducible exact H | (rw [hy375]; exact H) | exact H
  have Ny375 := Aside0.mk hy375
  clear hy375
  obtain rfl := Option.some.inj H
  go_enter Try.func56, Try.ntmps56
  go_wp2_with (first | ((with_reducible refine gate_dst (N := 10) rfl ?_); refine Kd.R_lit (Kd.int .i64) _ 3 ?hg (N := 10) ?hd (xs := ([1] : List Int)) (inner := [.int .i64 1]) (ok := fun _ => True) (okp := fun _ => True) ?hr ?hp (fun _ hk => hk) trivial (Below.refl _ _) (Nat.le_refl _) (by simp) ?_; (case hd => rfl); (case hg => rfl); (case hr => first | (go_simp; done) | (go_simp; rfl)); (case hp => exact (Reps.one (show Kd.M (Kd.int .i64) _ _ _ 1 [.int .i64 1] from rfl) (Reps.none _ _))); intro v376 w3 ho4 hb hg_ hnew_; clear hg_ hnew_; (first | rw [← Ny375.out] at ho4 | (simp only [Int.reduceToNat] at ho4; rw [← Ny375.out] at ho4)); have n0_ := Aside0.mk (Kd.R_lower ho4 (below_size (by repeat (first | (with_reducible first | exact HB.out | apply below_alloc | apply pw_below_drewN | apply below_drew1) | exact HB.out)))); have n1_ := Aside0.mk (below_step (by repeat (first | (with_reducible first | exact HB.out | apply below_alloc | apply pw_below_drewN | apply below_drew1) | exact HB.out)) hb); clear HB; have HO377 := n0_; have HB := n1_; clear n0_ n1_; clear hb ho4))
  go_ret
  exact ⟨_, by first | rfl | (simp [errW_none, errW_some] <;> rfl) | (simp [*, errW_none, errW_some] <;> rfl), by (with_reducible repeat (first | apply Kd.R_alloc | apply Kd.R_drewN | apply Kd.R_drew)); exact HO377.out, by repeat (first | (with_reducible first | exact HB.out | apply below_alloc | apply pw_below_drewN | apply below_drew1) | exact HB.out)⟩
 ·
  rw [if_neg c2] at H
  have c2b0 : decide ((l0.length : Int) < 14) = false := decide_eq_false c2
  have c2b1 : decide (l0.length < 14) = false := decide_eq_false (by omega)
  clear c2
  by_cases c5 : 13 < (l0.length : Int)
  ·
   rw [if_pos c5] at H
   have c5b0 : decide (13 < (l0.length : Int)) = true := decide_eq_true c5
   have c5b1 : decide (13 < l0.length) = true := decide_eq_true (by omega)
   clear c5
   have HC6 := Aside0.mk H
   clear H
   have p378 : 0 ≤ (13 : Int) := (by omega)
   have q378 : 13 < (l0.length : Int) := of_decide_eq_true (by first | (with_reducible assumption) | assumption)
   obtain ⟨ad378, e378, hx378_0⟩ := Kd.at_int HR0.out 13 p378 q378
   cases e378
   (try simp only [show (13 : Int).toNat = 13 from rfl, Nat.reduceMul, Nat.reduceEqDiff, Go.Addr.add, ↓reduceIte] at hx378_0)
   have qi378 : (13 < l0.length) = True := eq_true (by omega)
   (try rw [show ((13 : Int)).toNat = 13 from rfl] at hx378_0)
   replace p378 := eq_true p378
   replace q378 := eq_true q378
   go_enter Try.func56, Try.ntmps56
   go_upto_if 14 with (fail)
   go_cut [3, 4] (fun v3 v4 wc => ∃ (kq : Nat) (x3_5 : Int) (x4_5 : Int), v3 = .int .i64 x3_5 ∧ v4 = .int .i64 x4_5 ∧ Aside0 (magnetoref04_Widths.j0 kq l0 x3_5 x4_5 = some r) ∧ Aside0 (kq ≤ k) ∧ Aside0 (Below w.heap.size w wc))
   case first =>
    have H := HC6.out
    clear HC6
    by_cases c7 : (rd l0 13) = 1
    ·
     rw [if_pos c7] at H
     have c7b0 : ((rd l0 13) == 1) = true := beq_iff_eq.mpr c7
     have c7b1 : ((rd l0 13) != 1) = false := bne_eq_false_iff_eq.mpr c7
     clear c7
     (first | rw [c7b0] | (simp only [i64_w, i32_w]; rw [c7b0]) | skip)
     have H' := Aside0.mk H
     clear H
     go_wp2
     go_meet
     case rel => exact ⟨_, (32), (6), (by first | rfl | (simp; done) | (simp [*]; done)), (by first | rfl | (simp; done) | (simp [*]; done)), H', ⟨by first | omega | exact Nat.le_refl _⟩, ⟨by repeat (first | (with_reducible first | exact HB.out | apply below_alloc | apply pw_below_drewN | apply below_drew1) | exact HB.out)⟩⟩
    ·
     rw [if_neg c7] at H
     have c7b0 : ((rd l0 13) == 1) = false := beq_eq_false_iff_ne.mpr c7
     have c7b1 : ((rd l0 13) != 1) = true := bne_iff_ne.mpr c7
     (first | rw [c7b0] | (simp only [i64_w, i32_w]; rw [c7b0]) | skip)
     have H' := Aside0.mk H
     clear H
     go_wp2
     go_meet
     case rel => exact ⟨_, (13), (5), (by first | rfl | (simp; done) | (simp [*]; done)), (by first | rfl | (simp; done) | (simp [*]; done)), H', ⟨by first | omega | exact Nat.le_refl _⟩, ⟨by repeat (first | (with_reducible first | exact HB.out | apply below_alloc | apply pw_below_drewN | apply below_drew1) | exact HB.out)⟩⟩
   case rest =>
    clear HC6
    try clear c2
    try clear c2b0
    try clear c2b1
    try clear p2
    try clear p3
    try clear q3
    try clear hx3
    try clear qi3
    try clear c5
    try clear c5b0
    try clear c5b1
    try clear c7
    try clear c7b0
    try clear c7b1
    try clear hx378_0
    try clear p378
    try clear q378
    obtain ⟨kq, x3_5, x4_5, rfl, rfl, HA, HJ5, HB⟩ := hcut
    cases kq with
    | zero => exact absurd HA.out (by simp [magnetoref04_Widths.j0])
    | succ kj5 =>
     have H := HA.out
     clear HA
     simp only [magnetoref04_Widths.j0] at H
     by_cases c8 : (l0.length : Int) < (wrap64 ((wrap64 (1 + x3_5)) + x4_5))
     ·
      rw [if_pos c8] at H
      have c8b0 : decide ((l0.length : Int) < (wrap64 ((wrap64 (1 + x3_5)) + x4_5))) = true := decide_eq_true c8
      clear c8
      obtain ⟨y379, hy379⟩ : ∃ y_ : List Int, y_ = (([1, x3_5, x4_5] : List Int)) := ⟨_, rfl⟩
      replace H : (some y379) = some r := by first | (rw [hy379]; with_reducible exact H) | (have H2_ := (Option.bind_some _ _).symm.trans H; rw [hy379]; with_reducible exact H2_) | (have H2_ := (Option.bind_some _ _).symm.trans H; with_reducible exact H2_) | with_reducible exact H | (rw [hy379]; exact H) | exact H
      have Ny379 := Aside0.mk hy379
      clear hy379
      obtain rfl := Option.some.inj H
      go_wp2_with (first | ((with_reducible refine gate_dst (N := 24) rfl ?_); refine Kd.R_lit (Kd.int .i64) _ 3 ?hg (N := 24) ?hd (xs := ([1, x3_5, x4_5] : List Int)) (inner := [.int .i64 1, .int .i64 x3_5, .int .i64 x4_5]) (ok := fun _ => True) (okp := fun _ => True) ?hr ?hp (fun _ hk => hk) trivial (Below.refl _ _) (Nat.le_refl _) (by simp) ?_; (case hd => rfl); (case hg => rfl); (case hr => first | (go_simp; done) | (go_simp; rfl)); (case hp => exact (Reps.one (show Kd.M (Kd.int .i64) _ _ _ 1 [.int .i64 1] from rfl) (Reps.one (show Kd.M (Kd.int .i64) _ _ _ x3_5 [.int .i64 x3_5] from rfl) (Reps.one (show Kd.M (Kd.int .i64) _ _ _ x4_5 [.int .i64 x4_5] from rfl) (Reps.none _ _))))); intro v380 w9 ho10 hb hg_ hnew_; clear hg_ hnew_; (first | rw [← Ny379.out] at ho10 | (simp only [Int.reduceToNat] at ho10; rw [← Ny379.out] at ho10)); have n0_ := Aside0.mk (Kd.R_lower ho10 (below_size (by repeat (first | (with_reducible first | exact HB.out | apply below_alloc | apply pw_below_drewN | apply below_drew1) | exact HB.out)))); have n1_ := Aside0.mk (below_step (by repeat (first | (with_reducible first | exact HB.out | apply below_alloc | apply pw_below_drewN | apply below_drew1) | exact HB.out)) hb); clear HB; have HO381 := n0_; have HB := n1_; clear n0_ n1_; clear hb ho10))
      go_ret
      exact ⟨_, by first | rfl | (simp [errW_none, errW_some] <;> rfl) | (simp [*, errW_none, errW_some] <;> rfl), by (with_reducible repeat (first | apply Kd.R_alloc | apply Kd.R_drewN | apply Kd.R_drew)); exact HO381.out, by repeat (first | (with_reducible first | exact HB.out | apply below_alloc | apply pw_below_drewN | apply below_drew1) | exact HB.out)⟩
     ·
      rw [if_neg c8] at H
      have c8b0 : decide ((l0.length : Int) < (wrap64 ((wrap64 (1 + x3_5)) + x4_5))) = false := decide_eq_false c8
      clear c8
      obtain ⟨ji11, hji11⟩ : ∃ j_ : Int, (wrap64 ((wrap64 (x3_5 + x4_5)) - 3)) = j_ := ⟨_, rfl⟩
      replace H : (if 0 ≤ (ji11) then (if (ji11) ≤ (wrap64 ((wrap64 (x3_5 + x4_5)) + 1)) then (if (wrap64 ((wrap64 (x3_5 + x4_5)) + 1)) ≤ (l0.length : Int) then ((magnetoref04_Value.f kj5 ((l0.take ((wrap64 ((wrap64 (x3_5 + x4_5)) + 1)) : Int).toNat).drop ((ji11) : Int).toNat)).bind fun t383 => (if t383 > 8 then (magnetoref04_Widths.j1 kj5 l0 x3_5 x4_5 8) else (magnetoref04_Widths.j1 kj5 l0 x3_5 x4_5 t383))) else (none)) else (none)) else (none)) = some r := by first | (rw [hji11] at H; exact H) | (simp only [hji11] at H ⊢; exact H)
      have hji11w : (IntKind.i64.wrap ((wrap64 (x3_5 + x4_5)) - 3)) = ji11 := (i64_w _).trans hji11
      by_cases c12 : 0 ≤ (ji11)
      ·
       rw [if_pos c12] at H
       have c12b0 := eq_true c12
       have c12b1 : decide (0 ≤ (ji11)) = true := decide_eq_true c12
       clear c12
       by_cases c13 : (ji11) ≤ (wrap64 ((wrap64 (x3_5 + x4_5)) + 1))
       ·
        rw [if_pos c13] at H
        have c13b0 := eq_true c13
        have c13b1 : decide ((ji11) ≤ (wrap64 ((wrap64 (x3_5 + x4_5)) + 1))) = true := decide_eq_true c13
        by_cases c14 : (wrap64 ((wrap64 (x3_5 + x4_5)) + 1)) ≤ (l0.length : Int)
        ·
         rw [if_pos c14] at H
         have c14b0 := eq_true c14
         have c14b1 : decide ((wrap64 ((wrap64 (x3_5 + x4_5)) + 1)) ≤ (l0.length : Int)) = true := decide_eq_true c14
         replace H := Option.bind_eq_some_iff.mp H
         obtain ⟨t383, A150, H⟩ := H
         replace H : (if t383 > 8 then (magnetoref04_Widths.j1 kj5 l0 x3_5 x4_5 8) else (magnetoref04_Widths.j1 kj5 l0 x3_5 x4_5 t383)) = some r := H
         have A15 := Aside0.mk A150
         clear A150
         have HC16 := Aside0.mk H
         clear H
         obtain ⟨i017, hi017, _, hsz17, _⟩ := info_parts info3
         obtain ⟨A17, hcut17, hA17, hC17⟩ := print_mid_of (P := Try.prog) (Value.int .i64) 0 25 3 .i64 .i64 Try.underlying25 hi017 hsz17 (some ad378) c0 l0 (ji11) (wrap64 ((wrap64 (x3_5 + x4_5)) + 1)) (of_decide_eq_true (by first | (with_reducible assumption) | assumption)) (by first | omega | exact of_decide_eq_true (by first | (with_reducible assumption) | assumption)) (of_decide_eq_true (by first | (with_reducible assumption) | assumption)) HC0.out
         have HR382 := Aside0.mk (Kd.C_of_reads (h1 := fun _ => rfl) (hA17 _ (Kd.reads_of_C HR0.out)))
         have HC382 := Aside0.mk hC17
         clear hA17 hC17 hi017 hsz17
         go_upto_if 37 with (first | ((with_reducible refine gate_callee (f := 59) rfl ?_); refine goesL_ (some 35) rfl rfl Try.func59 (by kernel_rfl) rfl #[.slice A17 ((l0.take ((wrap64 ((wrap64 (x3_5 + x4_5)) + 1)) : Int).toNat).drop ((ji11) : Int).toNat).length (c0 - (ji11).toNat)] rfl (by (try simp only [List.map_toArray, List.map_cons, List.map_nil]); first | done | (rw [show ((l0.take ((wrap64 ((wrap64 (x3_5 + x4_5)) + 1)) : Int).toNat).drop ((ji11) : Int).toNat).length = ((wrap64 ((wrap64 (x3_5 + x4_5)) + 1)).toNat - (ji11).toNat) from (by rw [List.length_drop, List.length_take]; have h_ : ((wrap64 ((wrap64 (x3_5 + x4_5)) + 1)) : Int) ≤ (l0.length : Int) := of_decide_eq_true (by first | (with_reducible assumption) | assumption); omega)] <;> rfl) | (simp only [hji11]; rfl) | rfl | (simp only [List.length_drop, List.length_take]; rfl)) ?_; (with_reducible refine (magnetoref04_Value.calls kj5 _ _ ((l0.take ((wrap64 ((wrap64 (x3_5 + x4_5)) + 1)) : Int).toNat).drop ((ji11) : Int).toNat) t383 _ ?side1 ?side2 A15.out).mono ?_); (case side1 => repeat (first | exact (Kd.C_below HR382.out HB.out) | (with_reducible refine Kd.C_alloc ?_ _) | (with_reducible refine Kd.C_drewN ?_ _) | (with_reducible refine Kd.C_drew ?_))); (case side2 => exact HC382.out); rintro e w' ⟨rfl, ⟨nd, rfl⟩⟩; refine ⟨_, rfl, ?_⟩))
         (try simp only [Act.put, List.setIfInBounds_toArray, List.set_cons_zero, List.set_cons_succ])
         go_cut [5] (fun v5 wc => ∃ (kq : Nat) (x5_15 : Int), v5 = .int .i64 x5_15 ∧ Aside0 (magnetoref04_Widths.j1 kq l0 x3_5 x4_5 x5_15 = some r) ∧ Aside0 (kq ≤ kj5) ∧ Aside0 (Below w.heap.size w wc))
         case first =>
          have H := HC16.out
          clear HC16
          by_cases c18 : t383 > 8
          ·
           rw [if_pos c18] at H
           have c18b0 : decide (8 < t383) = true := decide_eq_true c18
           clear c18
           (first | rw [c18b0] | (simp only [i64_w, i32_w]; rw [c18b0]) | skip)
           have H' := Aside0.mk H
           clear H
           go_wp2
           go_meet
           case rel => exact ⟨_, (8), (by first | rfl | (simp; done) | (simp [*]; done)), H', ⟨by have := HJ5.out; first | omega | exact Nat.le_refl _⟩, ⟨by repeat (first | (with_reducible first | exact HB.out | apply below_alloc | apply pw_below_drewN | apply below_drew1) | exact HB.out)⟩⟩
          ·
           rw [if_neg c18] at H
           have c18b0 : decide (8 < t383) = false := decide_eq_false c18
           clear c18
           (first | rw [c18b0] | (simp only [i64_w, i32_w]; rw [c18b0]) | skip)
           have H' := Aside0.mk H
           clear H
           go_wp2
           go_meet
           case rel => exact ⟨_, (t383), (by first | rfl | (simp; done) | (simp [*]; done)), H', ⟨by have := HJ5.out; first | omega | exact Nat.le_refl _⟩, ⟨by repeat (first | (with_reducible first | exact HB.out | apply below_alloc | apply pw_below_drewN | apply below_drew1) | exact HB.out)⟩⟩
         case rest =>
          clear HC16
          try clear c1
          try clear c2
          try clear c2b0
          try clear c2b1
          try clear p2
          try clear p3
          try clear q3
          try clear hx3
          try clear qi3
          try clear c5
          try clear c5b0
          try clear c5b1
          try clear p6
          try clear c7
          try clear c7b0
          try clear c7b1
          try clear c8
          try clear c8b0
          try clear c12
          try clear c12b0
          try clear c12b1
          try clear c13
          try clear c13b0
          try clear c13b1
          try clear c14
          try clear c14b0
          try clear c14b1
          try clear c18
          try clear c18b0
          try clear hx378_0
          try clear p2
          try clear p3
          try clear p378
          try clear q3
          try clear q378
          obtain ⟨kq, x5_15, rfl, HA, HJ15, HB⟩ := hcut
          cases kq with
          | zero => exact absurd HA.out (by simp [magnetoref04_Widths.j1])
          | succ kj15 =>
           have H := HA.out
           clear HA
           simp only [magnetoref04_Widths.j1] at H
           by_cases c19 : 12 < (l0.length : Int)
           ·
            rw [if_pos c19] at H
            have c19b0 : decide (12 < (l0.length : Int)) = true := decide_eq_true c19
            have c19b1 : decide (12 < l0.length) = true := decide_eq_true (by omega)
            clear c19
            by_cases c20 : 13 < (l0.length : Int)
            ·
             rw [if_pos c20] at H
             have c20b0 : decide (13 < (l0.length : Int)) = true := decide_eq_true c20
             have c20b1 : decide (13 < l0.length) = true := decide_eq_true (by omega)
             clear c20
             by_cases c21 : (rd l0 13) = 1
             ·
              rw [if_pos c21] at H
              have c21b0 : ((rd l0 13) == 1) = true := beq_iff_eq.mpr c21
              have c21b1 : ((rd l0 13) != 1) = false := bne_eq_false_iff_eq.mpr c21
              clear c21
              by_cases c22 : 32 < (l0.length : Int)
              ·
               rw [if_pos c22] at H
               have c22b0 : decide (32 < (l0.length : Int)) = true := decide_eq_true c22
               have c22b1 : decide (32 < l0.length) = true := decide_eq_true (by omega)
               clear c22
               by_cases c23 : (rd l0 32) = 1
               ·
                rw [if_pos c23] at H
                have c23b0 : ((rd l0 32) == 1) = true := beq_iff_eq.mpr c23
                have c23b1 : ((rd l0 32) != 1) = false := bne_eq_false_iff_eq.mpr c23
                clear c23
                obtain ⟨y387, hy387⟩ : ∃ y_ : List Int, y_ = (([1, x3_5, x4_5, 8 * 0, 15, 1, 1, 1, 7] : List Int)) := ⟨_, rfl⟩
                replace H : (some y387) = some r := by first | (rw [hy387]; with_reducible exact H) | (have H2_ := (Option.bind_some _ _).symm.trans H; rw [hy387]; with_reducible exact H2_) | (have H2_ := (Option.bind_some _ _).symm.trans H; with_reducible exact H2_) | with_reducible exact H | (rw [hy387]; exact H) | exact H
                have Ny387 := Aside0.mk hy387
                clear hy387
                obtain rfl := Option.some.inj H
                have p384 : 0 ≤ (12 : Int) := (by omega)
                have q384 : 12 < (l0.length : Int) := of_decide_eq_true (by first | (with_reducible assumption) | assumption)
                obtain ⟨ad384, e384, hx384_0⟩ := Kd.at_int HR0.out 12 p384 q384
                obtain rfl : ad378 = ad384 := (by injection e384)
                (try simp only [show (12 : Int).toNat = 12 from rfl, Nat.reduceMul, Nat.reduceEqDiff, Go.Addr.add, ↓reduceIte] at hx384_0)
                have qi384 : (12 < l0.length) = True := eq_true (by omega)
                (try rw [show ((12 : Int)).toNat = 12 from rfl] at hx384_0)
                replace hx384_0 := (HB.out.cell (World.block_lt_of_cell? w _ hx384_0)).trans hx384_0
                replace p384 := eq_true p384
                replace q384 := eq_true q384
                have p385 : 0 ≤ (13 : Int) := (by omega)
                have q385 : 13 < (l0.length : Int) := of_decide_eq_true (by first | (with_reducible assumption) | assumption)
                obtain ⟨ad385, e385, hx385_0⟩ := Kd.at_int HR0.out 13 p385 q385
                obtain rfl : ad378 = ad385 := (by injection e385)
                (try simp only [show (13 : Int).toNat = 13 from rfl, Nat.reduceMul, Nat.reduceEqDiff, Go.Addr.add, ↓reduceIte] at hx385_0)
                have qi385 : (13 < l0.length) = True := eq_true (by omega)
                (try rw [show ((13 : Int)).toNat = 13 from rfl] at hx385_0)
                replace hx385_0 := (HB.out.cell (World.block_lt_of_cell? w _ hx385_0)).trans hx385_0
                replace p385 := eq_true p385
                replace q385 := eq_true q385
                have p386 : 0 ≤ (32 : Int) := (by omega)
                have q386 : 32 < (l0.length : Int) := of_decide_eq_true (by first | (with_reducible assumption) | assumption)
                obtain ⟨ad386, e386, hx386_0⟩ := Kd.at_int HR0.out 32 p386 q386
                obtain rfl : ad378 = ad386 := (by injection e386)
                (try simp only [show (32 : Int).toNat = 32 from rfl, Nat.reduceMul, Nat.reduceEqDiff, Go.Addr.add, ↓reduceIte] at hx386_0)
                have qi386 : (32 < l0.length) = True := eq_true (by omega)
                (try rw [show ((32 : Int)).toNat = 32 from rfl] at hx386_0)
                replace hx386_0 := (HB.out.cell (World.block_lt_of_cell? w _ hx386_0)).trans hx386_0
                replace p386 := eq_true p386
                replace q386 := eq_true q386
                go_wp2_with (first | ((with_reducible refine gate_dst (N := 54) rfl ?_); refine Kd.R_lit (Kd.int .i64) _ 3 ?hg (N := 54) ?hd (xs := ([1, x3_5, x4_5, 8 * 0, 15, 1, 1, 1, 7] : List Int)) (inner := [.int .i64 1, .int .i64 x3_5, .int .i64 x4_5, .int .i64 (8 * 0), .int .i64 15, .int .i64 1, .int .i64 1, .int .i64 1, .int .i64 7]) (ok := fun _ => True) (okp := fun _ => True) ?hr ?hp (fun _ hk => hk) trivial (Below.refl _ _) (Nat.le_refl _) (by simp) ?_; (case hd => rfl); (case hg => rfl); (case hr => first | (go_simp; done) | (go_simp; rfl)); (case hp => exact (Reps.one (show Kd.M (Kd.int .i64) _ _ _ 1 [.int .i64 1] from rfl) (Reps.one (show Kd.M (Kd.int .i64) _ _ _ x3_5 [.int .i64 x3_5] from rfl) (Reps.one (show Kd.M (Kd.int .i64) _ _ _ x4_5 [.int .i64 x4_5] from rfl) (Reps.one (show Kd.M (Kd.int .i64) _ _ _ (8 * 0) [.int .i64 (8 * 0)] from rfl) (Reps.one (show Kd.M (Kd.int .i64) _ _ _ 15 [.int .i64 15] from rfl) (Reps.one (show Kd.M (Kd.int .i64) _ _ _ 1 [.int .i64 1] from rfl) (Reps.one (show Kd.M (Kd.int .i64) _ _ _ 1 [.int .i64 1] from rfl) (Reps.one (show Kd.M (Kd.int .i64) _ _ _ 1 [.int .i64 1] from rfl) (Reps.one (show Kd.M (Kd.int .i64) _ _ _ 7 [.int .i64 7] from rfl) (Reps.none _ _))))))))))); intro v388 w24 ho25 hb hg_ hnew_; clear hg_ hnew_; (first | rw [← Ny387.out] at ho25 | (simp only [Int.reduceToNat] at ho25; rw [← Ny387.out] at ho25)); have n0_ := Aside0.mk (Kd.R_lower ho25 (below_size (by repeat (first | (with_reducible first | exact HB.out | apply below_alloc | apply pw_below_drewN | apply below_drew1) | exact HB.out)))); have n1_ := Aside0.mk (below_step (by repeat (first | (with_reducible first | exact HB.out | apply below_alloc | apply pw_below_drewN | apply below_drew1) | exact HB.out)) hb); clear HB; have HO389 := n0_; have HB := n1_; clear n0_ n1_; clear hb ho25))
                go_ret
                exact ⟨_, by first | rfl | (simp [errW_none, errW_some] <;> rfl) | (simp only [← hji11]; first | rfl | (simp [errW_none, errW_some] <;> rfl)) | (simp [*, errW_none, errW_some] <;> rfl), by (with_reducible repeat (first | apply Kd.R_alloc | apply Kd.R_drewN | apply Kd.R_drew)); exact HO389.out, by repeat (first | (with_reducible first | exact HB.out | apply below_alloc | apply pw_below_drewN | apply below_drew1) | exact HB.out)⟩
               ·
                rw [if_neg c23] at H
                have c23b0 : ((rd l0 32) == 1) = false := beq_eq_false_iff_ne.mpr c23
                have c23b1 : ((rd l0 32) != 1) = true := bne_iff_ne.mpr c23
                obtain ⟨y390, hy390⟩ : ∃ y_ : List Int, y_ = (([1, x3_5, x4_5, wrap64 (8 * x5_15), 15, 1, 1, 1, 7] : List Int)) := ⟨_, rfl⟩
                replace H : (some y390) = some r := by first | (rw [hy390]; with_reducible exact H) | (have H2_ := (Option.bind_some _ _).symm.trans H; rw [hy390]; with_reducible exact H2_) | (have H2_ := (Option.bind_some _ _).symm.trans H; with_reducible exact H2_) | with_reducible exact H | (rw [hy390]; exact H) | exact H
                have Ny390 := Aside0.mk hy390
                clear hy390
                obtain rfl := Option.some.inj H
                have p384 : 0 ≤ (12 : Int) := (by omega)
                have q384 : 12 < (l0.length : Int) := of_decide_eq_true (by first | (with_reducible assumption) | assumption)
                obtain ⟨ad384, e384, hx384_0⟩ := Kd.at_int HR0.out 12 p384 q384
                obtain rfl : ad378 = ad384 := (by injection e384)
                (try simp only [show (12 : Int).toNat = 12 from rfl, Nat.reduceMul, Nat.reduceEqDiff, Go.Addr.add, ↓reduceIte] at hx384_0)
                have qi384 : (12 < l0.length) = True := eq_true (by omega)
                (try rw [show ((12 : Int)).toNat = 12 from rfl] at hx384_0)
                replace hx384_0 := (HB.out.cell (World.block_lt_of_cell? w _ hx384_0)).trans hx384_0
                replace p384 := eq_true p384
                replace q384 := eq_true q384
                have p385 : 0 ≤ (13 : Int) := (by omega)
                have q385 : 13 < (l0.length : Int) := of_decide_eq_true (by first | (with_reducible assumption) | assumption)
                obtain ⟨ad385, e385, hx385_0⟩ := Kd.at_int HR0.out 13 p385 q385
                obtain rfl : ad378 = ad385 := (by injection e385)
                (try simp only [show (13 : Int).toNat = 13 from rfl, Nat.reduceMul, Nat.reduceEqDiff, Go.Addr.add, ↓reduceIte] at hx385_0)
                have qi385 : (13 < l0.length) = True := eq_true (by omega)
                (try rw [show ((13 : Int)).toNat = 13 from rfl] at hx385_0)
                replace hx385_0 := (HB.out.cell (World.block_lt_of_cell? w _ hx385_0)).trans hx385_0
                replace p385 := eq_true p385
                replace q385 := eq_true q385
                have p386 : 0 ≤ (32 : Int) := (by omega)
                have q386 : 32 < (l0.length : Int) := of_decide_eq_true (by first | (with_reducible assumption) | assumption)
                obtain ⟨ad386, e386, hx386_0⟩ := Kd.at_int HR0.out 32 p386 q386
                obtain rfl : ad378 = ad386 := (by injection e386)
                (try simp only [show (32 : Int).toNat = 32 from rfl, Nat.reduceMul, Nat.reduceEqDiff, Go.Addr.add, ↓reduceIte] at hx386_0)
                have qi386 : (32 < l0.length) = True := eq_true (by omega)
                (try rw [show ((32 : Int)).toNat = 32 from rfl] at hx386_0)
                replace hx386_0 := (HB.out.cell (World.block_lt_of_cell? w _ hx386_0)).trans hx386_0
                replace p386 := eq_true p386
                replace q386 := eq_true q386
                go_wp2_with (first | ((with_reducible refine gate_dst (N := 54) rfl ?_); refine Kd.R_lit (Kd.int .i64) _ 3 ?hg (N := 54) ?hd (xs := ([1, x3_5, x4_5, wrap64 (8 * x5_15), 15, 1, 1, 1, 7] : List Int)) (inner := [.int .i64 1, .int .i64 x3_5, .int .i64 x4_5, .int .i64 (wrap64 (8 * x5_15)), .int .i64 15, .int .i64 1, .int .i64 1, .int .i64 1, .int .i64 7]) (ok := fun _ => True) (okp := fun _ => True) ?hr ?hp (fun _ hk => hk) trivial (Below.refl _ _) (Nat.le_refl _) (by simp) ?_; (case hd => rfl); (case hg => rfl); (case hr => first | (go_simp; done) | (go_simp; rfl)); (case hp => exact (Reps.one (show Kd.M (Kd.int .i64) _ _ _ 1 [.int .i64 1] from rfl) (Reps.one (show Kd.M (Kd.int .i64) _ _ _ x3_5 [.int .i64 x3_5] from rfl) (Reps.one (show Kd.M (Kd.int .i64) _ _ _ x4_5 [.int .i64 x4_5] from rfl) (Reps.one (show Kd.M (Kd.int .i64) _ _ _ (wrap64 (8 * x5_15)) [.int .i64 (wrap64 (8 * x5_15))] from rfl) (Reps.one (show Kd.M (Kd.int .i64) _ _ _ 15 [.int .i64 15] from rfl) (Reps.one (show Kd.M (Kd.int .i64) _ _ _ 1 [.int .i64 1] from rfl) (Reps.one (show Kd.M (Kd.int .i64) _ _ _ 1 [.int .i64 1] from rfl) (Reps.one (show Kd.M (Kd.int .i64) _ _ _ 1 [.int .i64 1] from rfl) (Reps.one (show Kd.M (Kd.int .i64) _ _ _ 7 [.int .i64 7] from rfl) (Reps.none _ _))))))))))); intro v391 w26 ho27 hb hg_ hnew_; clear hg_ hnew_; (first | rw [← Ny390.out] at ho27 | (simp only [Int.reduceToNat] at ho27; rw [← Ny390.out] at ho27)); have n0_ := Aside0.mk (Kd.R_lower ho27 (below_size (by repeat (first | (with_reducible first | exact HB.out | apply below_alloc | apply pw_below_drewN | apply below_drew1) | exact HB.out)))); have n1_ := Aside0.mk (below_step (by repeat (first | (with_reducible first | exact HB.out | apply below_alloc | apply pw_below_drewN | apply below_drew1) | exact HB.out)) hb); clear HB; have HO392 := n0_; have HB := n1_; clear n0_ n1_; clear hb ho27))
                go_ret
                exact ⟨_, by first | rfl | (simp [errW_none, errW_some] <;> rfl) | (simp only [← hji11]; first | rfl | (simp [errW_none, errW_some] <;> rfl)) | (simp [*, errW_none, errW_some] <;> rfl), by (with_reducible repeat (first | apply Kd.R_alloc | apply Kd.R_drewN | apply Kd.R_drew)); exact HO392.out, by repeat (first | (with_reducible first | exact HB.out | apply below_alloc | apply pw_below_drewN | apply below_drew1) | exact HB.out)⟩
              ·
               rw [if_neg c22] at H
               exact absurd H (by simp)
             ·
              rw [if_neg c21] at H
              have c21b0 : ((rd l0 13) == 1) = false := beq_eq_false_iff_ne.mpr c21
              have c21b1 : ((rd l0 13) != 1) = true := bne_iff_ne.mpr c21
              by_cases c28 : (rd l0 12) = 1
              ·
               rw [if_pos c28] at H
               have c28b0 : ((rd l0 12) == 1) = true := beq_iff_eq.mpr c28
               have c28b1 : ((rd l0 12) != 1) = false := bne_eq_false_iff_eq.mpr c28
               clear c28
               obtain ⟨y393, hy393⟩ : ∃ y_ : List Int, y_ = (([1, x3_5, x4_5, 8 * 0, 15, 1, 1, 1, 7] : List Int)) := ⟨_, rfl⟩
               replace H : (some y393) = some r := by first | (rw [hy393]; with_reducible exact H) | (have H2_ := (Option.bind_some _ _).symm.trans H; rw [hy393]; with_reducible exact H2_) | (have H2_ := (Option.bind_some _ _).symm.trans H; with_reducible exact H2_) | with_reducible exact H | (rw [hy393]; exact H) | exact H
               have Ny393 := Aside0.mk hy393
               clear hy393
               obtain rfl := Option.some.inj H
               have p384 : 0 ≤ (12 : Int) := (by omega)
               have q384 : 12 < (l0.length : Int) := of_decide_eq_true (by first | (with_reducible assumption) | assumption)
               obtain ⟨ad384, e384, hx384_0⟩ := Kd.at_int HR0.out 12 p384 q384
               obtain rfl : ad378 = ad384 := (by injection e384)
               (try simp only [show (12 : Int).toNat = 12 from rfl, Nat.reduceMul, Nat.reduceEqDiff, Go.Addr.add, ↓reduceIte] at hx384_0)
               have qi384 : (12 < l0.length) = True := eq_true (by omega)
               (try rw [show ((12 : Int)).toNat = 12 from rfl] at hx384_0)
               replace hx384_0 := (HB.out.cell (World.block_lt_of_cell? w _ hx384_0)).trans hx384_0
               replace p384 := eq_true p384
               replace q384 := eq_true q384
               have p385 : 0 ≤ (13 : Int) := (by omega)
               have q385 : 13 < (l0.length : Int) := of_decide_eq_true (by first | (with_reducible assumption) | assumption)
               obtain ⟨ad385, e385, hx385_0⟩ := Kd.at_int HR0.out 13 p385 q385
               obtain rfl : ad378 = ad385 := (by injection e385)
               (try simp only [show (13 : Int).toNat = 13 from rfl, Nat.reduceMul, Nat.reduceEqDiff, Go.Addr.add, ↓reduceIte] at hx385_0)
               have qi385 : (13 < l0.length) = True := eq_true (by omega)
               (try rw [show ((13 : Int)).toNat = 13 from rfl] at hx385_0)
               replace hx385_0 := (HB.out.cell (World.block_lt_of_cell? w _ hx385_0)).trans hx385_0
               replace p385 := eq_true p385
               replace q385 := eq_true q385
               go_wp2_with (first | ((with_reducible refine gate_dst (N := 54) rfl ?_); refine Kd.R_lit (Kd.int .i64) _ 3 ?hg (N := 54) ?hd (xs := ([1, x3_5, x4_5, 8 * 0, 15, 1, 1, 1, 7] : List Int)) (inner := [.int .i64 1, .int .i64 x3_5, .int .i64 x4_5, .int .i64 (8 * 0), .int .i64 15, .int .i64 1, .int .i64 1, .int .i64 1, .int .i64 7]) (ok := fun _ => True) (okp := fun _ => True) ?hr ?hp (fun _ hk => hk) trivial (Below.refl _ _) (Nat.le_refl _) (by simp) ?_; (case hd => rfl); (case hg => rfl); (case hr => first | (go_simp; done) | (go_simp; rfl)); (case hp => exact (Reps.one (show Kd.M (Kd.int .i64) _ _ _ 1 [.int .i64 1] from rfl) (Reps.one (show Kd.M (Kd.int .i64) _ _ _ x3_5 [.int .i64 x3_5] from rfl) (Reps.one (show Kd.M (Kd.int .i64) _ _ _ x4_5 [.int .i64 x4_5] from rfl) (Reps.one (show Kd.M (Kd.int .i64) _ _ _ (8 * 0) [.int .i64 (8 * 0)] from rfl) (Reps.one (show Kd.M (Kd.int .i64) _ _ _ 15 [.int .i64 15] from rfl) (Reps.one (show Kd.M (Kd.int .i64) _ _ _ 1 [.int .i64 1] from rfl) (Reps.one (show Kd.M (Kd.int .i64) _ _ _ 1 [.int .i64 1] from rfl) (Reps.one (show Kd.M (Kd.int .i64) _ _ _ 1 [.int .i64 1] from rfl) (Reps.one (show Kd.M (Kd.int .i64) _ _ _ 7 [.int .i64 7] from rfl) (Reps.none _ _))))))))))); intro v394 w29 ho30 hb hg_ hnew_; clear hg_ hnew_; (first | rw [← Ny393.out] at ho30 | (simp only [Int.reduceToNat] at ho30; rw [← Ny393.out] at ho30)); have n0_ := Aside0.mk (Kd.R_lower ho30 (below_size (by repeat (first | (with_reducible first | exact HB.out | apply below_alloc | apply pw_below_drewN | apply below_drew1) | exact HB.out)))); have n1_ := Aside0.mk (below_step (by repeat (first | (with_reducible first | exact HB.out | apply below_alloc | apply pw_below_drewN | apply below_drew1) | exact HB.out)) hb); clear HB; have HO395 := n0_; have HB := n1_; clear n0_ n1_; clear hb ho30))
               go_ret
               exact ⟨_, by first | rfl | (simp [errW_none, errW_some] <;> rfl) | (simp only [← hji11]; first | rfl | (simp [errW_none, errW_some] <;> rfl)) | (simp [*, errW_none, errW_some] <;> rfl), by (with_reducible repeat (first | apply Kd.R_alloc | apply Kd.R_drewN | apply Kd.R_drew)); exact HO395.out, by repeat (first | (with_reducible first | exact HB.out | apply below_alloc | apply pw_below_drewN | apply below_drew1) | exact HB.out)⟩
              ·
               rw [if_neg c28] at H
               have c28b0 : ((rd l0 12) == 1) = false := beq_eq_false_iff_ne.mpr c28
               have c28b1 : ((rd l0 12) != 1) = true := bne_iff_ne.mpr c28
               obtain ⟨y396, hy396⟩ : ∃ y_ : List Int, y_ = (([1, x3_5, x4_5, wrap64 (8 * x5_15), 15, 1, 1, 1, 7] : List Int)) := ⟨_, rfl⟩
               replace H : (some y396) = some r := by first | (rw [hy396]; with_reducible exact H) | (have H2_ := (Option.bind_some _ _).symm.trans H; rw [hy396]; with_reducible exact H2_) | (have H2_ := (Option.bind_some _ _).symm.trans H; with_reducible exact H2_) | with_reducible exact H | (rw [hy396]; exact H) | exact H
               have Ny396 := Aside0.mk hy396
               clear hy396
               obtain rfl := Option.some.inj H
               have p384 : 0 ≤ (12 : Int) := (by omega)
               have q384 : 12 < (l0.length : Int) := of_decide_eq_true (by first | (with_reducible assumption) | assumption)
               obtain ⟨ad384, e384, hx384_0⟩ := Kd.at_int HR0.out 12 p384 q384
               obtain rfl : ad378 = ad384 := (by injection e384)
               (try simp only [show (12 : Int).toNat = 12 from rfl, Nat.reduceMul, Nat.reduceEqDiff, Go.Addr.add, ↓reduceIte] at hx384_0)
               have qi384 : (12 < l0.length) = True := eq_true (by omega)
               (try rw [show ((12 : Int)).toNat = 12 from rfl] at hx384_0)
               replace hx384_0 := (HB.out.cell (World.block_lt_of_cell? w _ hx384_0)).trans hx384_0
               replace p384 := eq_true p384
               replace q384 := eq_true q384
               have p385 : 0 ≤ (13 : Int) := (by omega)
               have q385 : 13 < (l0.length : Int) := of_decide_eq_true (by first | (with_reducible assumption) | assumption)
               obtain ⟨ad385, e385, hx385_0⟩ := Kd.at_int HR0.out 13 p385 q385
               obtain rfl : ad378 = ad385 := (by injection e385)
               (try simp only [show (13 : Int).toNat = 13 from rfl, Nat.reduceMul, Nat.reduceEqDiff, Go.Addr.add, ↓reduceIte] at hx385_0)
               have qi385 : (13 < l0.length) = True := eq_true (by omega)
               (try rw [show ((13 : Int)).toNat = 13 from rfl] at hx385_0)
               replace hx385_0 := (HB.out.cell (World.block_lt_of_cell? w _ hx385_0)).trans hx385_0
               replace p385 := eq_true p385
               replace q385 := eq_true q385
               go_wp2_with (first | ((with_reducible refine gate_dst (N := 54) rfl ?_); refine Kd.R_lit (Kd.int .i64) _ 3 ?hg (N := 54) ?hd (xs := ([1, x3_5, x4_5, wrap64 (8 * x5_15), 15, 1, 1, 1, 7] : List Int)) (inner := [.int .i64 1, .int .i64 x3_5, .int .i64 x4_5, .int .i64 (wrap64 (8 * x5_15)), .int .i64 15, .int .i64 1, .int .i64 1, .int .i64 1, .int .i64 7]) (ok := fun _ => True) (okp := fun _ => True) ?hr ?hp (fun _ hk => hk) trivial (Below.refl _ _) (Nat.le_refl _) (by simp) ?_; (case hd => rfl); (case hg => rfl); (case hr => first | (go_simp; done) | (go_simp; rfl)); (case hp => exact (Reps.one (show Kd.M (Kd.int .i64) _ _ _ 1 [.int .i64 1] from rfl) (Reps.one (show Kd.M (Kd.int .i64) _ _ _ x3_5 [.int .i64 x3_5] from rfl) (Reps.one (show Kd.M (Kd.int .i64) _ _ _ x4_5 [.int .i64 x4_5] from rfl) (Reps.one (show Kd.M (Kd.int .i64) _ _ _ (wrap64 (8 * x5_15)) [.int .i64 (wrap64 (8 * x5_15))] from rfl) (Reps.one (show Kd.M (Kd.int .i64) _ _ _ 15 [.int .i64 15] from rfl) (Reps.one (show Kd.M (Kd.int .i64) _ _ _ 1 [.int .i64 1] from rfl) (Reps.one (show Kd.M (Kd.int .i64) _ _ _ 1 [.int .i64 1] from rfl) (Reps.one (show Kd.M (Kd.int .i64) _ _ _ 1 [.int .i64 1] from rfl) (Reps.one (show Kd.M (Kd.int .i64) _ _ _ 7 [.int .i64 7] from rfl) (Reps.none _ _))))))))))); intro v397 w31 ho32 hb hg_ hnew_; clear hg_ hnew_; (first | rw [← Ny396.out] at ho32 | (simp only [Int.reduceToNat] at ho32; rw [← Ny396.out] at ho32)); have n0_ := Aside0.mk (Kd.R_lower ho32 (below_size (by repeat (first | (with_reducible first | exact HB.out | apply below_alloc | apply pw_below_drewN | apply below_drew1) | exact HB.out)))); have n1_ := Aside0.mk (below_step (by repeat (first | (with_reducible first | exact HB.out | apply below_alloc | apply pw_below_drewN | apply below_drew1) | exact HB.out)) hb); clear HB; have HO398 := n0_; have HB := n1_; clear n0_ n1_; clear hb ho32))
               go_ret
               exact ⟨_, by first | rfl | (simp [errW_none, errW_some] <;> rfl) | (simp only [← hji11]; first | rfl | (simp [errW_none, errW_some] <;> rfl)) | (simp [*, errW_none, errW_some] <;> rfl), by (with_reducible repeat (first | apply Kd.R_alloc | apply Kd.R_drewN | apply Kd.R_drew)); exact HO398.out, by repeat (first | (with_reducible first | exact HB.out | apply below_alloc | apply pw_below_drewN | apply below_drew1) | exact HB.out)⟩
            ·
             rw [if_neg c20] at H
             exact absurd H (by simp)
           ·
            rw [if_neg c19] at H
            exact absurd H (by simp)
        ·
         rw [if_neg c14] at H
         exact absurd H (by simp)
       ·
        rw [if_neg c13] at H
        exact absurd H (by simp)
      ·
       rw [if_neg c12] at H
       exact absurd H (by simp)
  ·
   rw [if_neg c5] at H
   exact absurd H (by simp)

/-! ### magnetoref04_Ahead: function 26 -/
def magnetoref04_Ahead.f (k : Nat) (l0 : List Int) : Option (Int) := (magnetoref04_Widths.f k l0).bind fun t399 => (if (t399.length : Int) < 9 then (some (-1)) else (if 0 < (t399.length : Int) then (if 1 < (t399.length : Int) then (if 2 < (t399.length : Int) then (if 3 < (t399.length : Int) then (some (wrap64 ((wrap64 ((wrap64 ((rd t399 0) + (rd t399 1))) + (rd t399 2))) + (rd t399 3)))) else (none)) else (none)) else (none)) else (none)))
theorem magnetoref04_Ahead.mono : ∀ a0 k, LeO (magnetoref04_Ahead.f k a0) (magnetoref04_Ahead.f (k + 1) a0) := by
 intro a0 k
 unfold magnetoref04_Ahead.f
 repeat' first
   | (with_reducible exact magnetoref04_Widths.mono _ _)
   | (with_reducible exact LeO.refl _)
   | (with_reducible exact LeO.none _)
   | (with_reducible refine LeO.ite ?_ ?_)
   | (with_reducible refine LeO.bind ?_ (fun _ => ?_))
   | exact magnetoref04_Widths.mono _ _
   | exact LeO.none _
   | refine LeO.ite ?_ ?_
   | refine LeO.bind ?_ (fun _ => ?_)
set_option maxHeartbeats 8000000 in
set_option maxRecDepth 100000 in
theorem magnetoref04_Ahead.calls (k : Nat) (A0 : Option Addr) (c0 : Nat) (l0 : List Int) (r : Int) (w : World) (hr0 : Kd.C (Kd.int .i64) w A0 l0.length l0) (hc0 : l0.length ≤ c0) (h : magnetoref04_Ahead.f k l0 = some r) :
  Calls Try.prog 26 #[.slice A0 l0.length c0] w fun e w' => e = .returned (.int .i64 r) ∧ Below w.heap.size w w' := by
 have HR0 := Aside0.mk hr0
 have HC0 := Aside0.mk hc0
 clear hr0 hc0
 have HB := Aside0.mk (Below.refl w.heap.size w)
 have H : ((magnetoref04_Widths.f k l0).bind fun t399 => (if (t399.length : Int) < 9 then (some (-1)) else (if 0 < (t399.length : Int) then (if 1 < (t399.length : Int) then (if 2 < (t399.length : Int) then (if 3 < (t399.length : Int) then (some (wrap64 ((wrap64 ((wrap64 ((rd t399 0) + (rd t399 1))) + (rd t399 2))) + (rd t399 3)))) else (none)) else (none)) else (none)) else (none)))) = some r := h
 clear h
 replace H := Option.bind_eq_some_iff.mp H
 obtain ⟨t399, A20, H⟩ := H
 replace H : (if (t399.length : Int) < 9 then (some (-1)) else (if 0 < (t399.length : Int) then (if 1 < (t399.length : Int) then (if 2 < (t399.length : Int) then (if 3 < (t399.length : Int) then (some (wrap64 ((wrap64 ((wrap64 ((rd t399 0) + (rd t399 1))) + (rd t399 2))) + (rd t399 3)))) else (none)) else (none)) else (none)) else (none))) = some r := H
 have A2 := Aside0.mk A20
 clear A20
 by_cases c3 : (t399.length : Int) < 9
 ·
  rw [if_pos c3] at H
  have c3b0 : decide ((t399.length : Int) < 9) = true := decide_eq_true c3
  have c3b1 : decide (t399.length < 9) = true := decide_eq_true (by omega)
  clear c3
  obtain rfl := Option.some.inj H
  go_enter Try.func26, Try.ntmps26
  go_wp2_with (first | (go_at_call 56; (with_reducible refine (magnetoref04_Widths.calls k _ _ l0 t399 _ ?side1 ?side2 A2.out).mono ?_); (case side1 => repeat (first | exact HR0.out | (with_reducible refine Kd.C_alloc ?_ _) | (with_reducible refine Kd.C_drewN ?_ _) | (with_reducible refine Kd.C_drew ?_))); (case side2 => exact HC0.out); rintro e w4 ⟨v400, rfl, ho0, hb⟩; have n0_ := Aside0.mk (Kd.R_lower ho0 (below_size (by repeat (first | (with_reducible first | exact HB.out | apply below_alloc | apply pw_below_drewN | apply below_drew1) | exact HB.out)))); have n1_ := Aside0.mk (below_step (by repeat (first | (with_reducible first | exact HB.out | apply below_alloc | apply pw_below_drewN | apply below_drew1) | exact HB.out)) hb); clear HB; have HO401 := n0_; have HB := n1_; clear n0_ n1_; (try clear hb); (try clear hb2); (try clear hk); (try clear hi); (try clear ho0); obtain ⟨Ao5, co5, eo5⟩ := Kd.R_slice HO401.out; subst eo5))
  repeat (go_quiet (first | (go_at_call 56; (with_reducible refine (magnetoref04_Widths.calls k _ _ l0 t399 _ ?side1 ?side2 A2.out).mono ?_); (case side1 => repeat (first | exact HR0.out | (with_reducible refine Kd.C_alloc ?_ _) | (with_reducible refine Kd.C_drewN ?_ _) | (with_reducible refine Kd.C_drew ?_))); (case side2 => exact HC0.out); rintro e w4 ⟨v400, rfl, ho0, hb⟩; have n0_ := Aside0.mk (Kd.R_lower ho0 (below_size (by repeat (first | (with_reducible first | exact HB.out | apply below_alloc | apply pw_below_drewN | apply below_drew1) | exact HB.out)))); have n1_ := Aside0.mk (below_step (by repeat (first | (with_reducible first | exact HB.out | apply below_alloc | apply pw_below_drewN | apply below_drew1) | exact HB.out)) hb); clear HB; have HO401 := n0_; have HB := n1_; clear n0_ n1_; (try clear hb); (try clear hb2); (try clear hk); (try clear hi); (try clear ho0); obtain ⟨Ao5, co5, eo5⟩ := Kd.R_slice HO401.out; subst eo5)); try go_wp2_with (first | (go_at_call 56; (with_reducible refine (magnetoref04_Widths.calls k _ _ l0 t399 _ ?side1 ?side2 A2.out).mono ?_); (case side1 => repeat (first | exact HR0.out | (with_reducible refine Kd.C_alloc ?_ _) | (with_reducible refine Kd.C_drewN ?_ _) | (with_reducible refine Kd.C_drew ?_))); (case side2 => exact HC0.out); rintro e w4 ⟨v400, rfl, ho0, hb⟩; have n0_ := Aside0.mk (Kd.R_lower ho0 (below_size (by repeat (first | (with_reducible first | exact HB.out | apply below_alloc | apply pw_below_drewN | apply below_drew1) | exact HB.out)))); have n1_ := Aside0.mk (below_step (by repeat (first | (with_reducible first | exact HB.out | apply below_alloc | apply pw_below_drewN | apply below_drew1) | exact HB.out)) hb); clear HB; have HO401 := n0_; have HB := n1_; clear n0_ n1_; (try clear hb); (try clear hb2); (try clear hk); (try clear hi); (try clear ho0); obtain ⟨Ao5, co5, eo5⟩ := Kd.R_slice HO401.out; subst eo5)))
  go_ret
  exact ⟨by first | rfl | (simp [errW_none, errW_some] <;> rfl) | (simp [*, errW_none, errW_some] <;> rfl), by repeat (first | (with_reducible first | exact HB.out | apply below_alloc | apply pw_below_drewN | apply below_drew1) | exact HB.out)⟩
 ·
  rw [if_neg c3] at H
  have c3b0 : decide ((t399.length : Int) < 9) = false := decide_eq_false c3
  have c3b1 : decide (t399.length < 9) = false := decide_eq_false (by omega)
  clear c3
  by_cases c6 : 0 < (t399.length : Int)
  ·
   rw [if_pos c6] at H
   have c6b0 : decide (0 < (t399.length : Int)) = true := decide_eq_true c6
   have c6b1 : decide (0 < t399.length) = true := decide_eq_true (by omega)
   clear c6
   by_cases c7 : 1 < (t399.length : Int)
   ·
    rw [if_pos c7] at H
    have c7b0 : decide (1 < (t399.length : Int)) = true := decide_eq_true c7
    have c7b1 : decide (1 < t399.length) = true := decide_eq_true (by omega)
    clear c7
    by_cases c8 : 2 < (t399.length : Int)
    ·
     rw [if_pos c8] at H
     have c8b0 : decide (2 < (t399.length : Int)) = true := decide_eq_true c8
     have c8b1 : decide (2 < t399.length) = true := decide_eq_true (by omega)
     clear c8
     by_cases c9 : 3 < (t399.length : Int)
     ·
      rw [if_pos c9] at H
      have c9b0 : decide (3 < (t399.length : Int)) = true := decide_eq_true c9
      have c9b1 : decide (3 < t399.length) = true := decide_eq_true (by omega)
      clear c9
      obtain rfl := Option.some.inj H
      go_enter Try.func26, Try.ntmps26
      go_wp2_with (first | (go_at_call 56; (with_reducible refine (magnetoref04_Widths.calls k _ _ l0 t399 _ ?side1 ?side2 A2.out).mono ?_); (case side1 => repeat (first | exact HR0.out | (with_reducible refine Kd.C_alloc ?_ _) | (with_reducible refine Kd.C_drewN ?_ _) | (with_reducible refine Kd.C_drew ?_))); (case side2 => exact HC0.out); rintro e w10 ⟨v400, rfl, ho0, hb⟩; have n0_ := Aside0.mk (Kd.R_lower ho0 (below_size (by repeat (first | (with_reducible first | exact HB.out | apply below_alloc | apply pw_below_drewN | apply below_drew1) | exact HB.out)))); have n1_ := Aside0.mk (below_step (by repeat (first | (with_reducible first | exact HB.out | apply below_alloc | apply pw_below_drewN | apply below_drew1) | exact HB.out)) hb); clear HB; have HO401 := n0_; have HB := n1_; clear n0_ n1_; (try clear hb); (try clear hb2); (try clear hk); (try clear hi); (try clear ho0); obtain ⟨Ao11, co11, eo11⟩ := Kd.R_slice HO401.out; subst eo11; have p402 : 0 ≤ (0 : Int) := (by omega); have q402 : 0 < (t399.length : Int) := of_decide_eq_true (by first | (with_reducible assumption) | assumption); obtain ⟨ad402, e402, hx402_0⟩ := Kd.at_int (Kd.R_reads' HO401.out).2.2 0 p402 q402; cases e402; have qi402 : (0 < t399.length) = True := eq_true (by omega); (try rw [show ((0 : Int)).toNat = 0 from rfl] at hx402_0); (try rw [Addr.add_zero'] at hx402_0); replace p402 := eq_true p402; replace q402 := eq_true q402; have p403 : 0 ≤ (1 : Int) := (by omega); have q403 : 1 < (t399.length : Int) := of_decide_eq_true (by first | (with_reducible assumption) | assumption); obtain ⟨ad403, e403, hx403_0⟩ := Kd.at_int (Kd.R_reads' HO401.out).2.2 1 p403 q403; obtain rfl : ad402 = ad403 := (by injection e403); (try simp only [show (1 : Int).toNat = 1 from rfl, Nat.reduceMul, Nat.reduceEqDiff, Go.Addr.add, ↓reduceIte] at hx403_0); have qi403 : (1 < t399.length) = True := eq_true (by omega); (try rw [show ((1 : Int)).toNat = 1 from rfl] at hx403_0); replace p403 := eq_true p403; replace q403 := eq_true q403; have p404 : 0 ≤ (2 : Int) := (by omega); have q404 : 2 < (t399.length : Int) := of_decide_eq_true (by first | (with_reducible assumption) | assumption); obtain ⟨ad404, e404, hx404_0⟩ := Kd.at_int (Kd.R_reads' HO401.out).2.2 2 p404 q404; obtain rfl : ad402 = ad404 := (by injection e404); (try simp only [show (2 : Int).toNat = 2 from rfl, Nat.reduceMul, Nat.reduceEqDiff, Go.Addr.add, ↓reduceIte] at hx404_0); have qi404 : (2 < t399.length) = True := eq_true (by omega); (try rw [show ((2 : Int)).toNat = 2 from rfl] at hx404_0); replace p404 := eq_true p404; replace q404 := eq_true q404; have p405 : 0 ≤ (3 : Int) := (by omega); have q405 : 3 < (t399.length : Int) := of_decide_eq_true (by first | (with_reducible assumption) | assumption); obtain ⟨ad405, e405, hx405_0⟩ := Kd.at_int (Kd.R_reads' HO401.out).2.2 3 p405 q405; obtain rfl : ad402 = ad405 := (by injection e405); (try simp only [show (3 : Int).toNat = 3 from rfl, Nat.reduceMul, Nat.reduceEqDiff, Go.Addr.add, ↓reduceIte] at hx405_0); have qi405 : (3 < t399.length) = True := eq_true (by omega); (try rw [show ((3 : Int)).toNat = 3 from rfl] at hx405_0); replace p405 := eq_true p405; replace q405 := eq_true q405))
      repeat (go_quiet (first | (go_at_call 56; (with_reducible refine (magnetoref04_Widths.calls k _ _ l0 t399 _ ?side1 ?side2 A2.out).mono ?_); (case side1 => repeat (first | exact HR0.out | (with_reducible refine Kd.C_alloc ?_ _) | (with_reducible refine Kd.C_drewN ?_ _) | (with_reducible refine Kd.C_drew ?_))); (case side2 => exact HC0.out); rintro e w10 ⟨v400, rfl, ho0, hb⟩; have n0_ := Aside0.mk (Kd.R_lower ho0 (below_size (by repeat (first | (with_reducible first | exact HB.out | apply below_alloc | apply pw_below_drewN | apply below_drew1) | exact HB.out)))); have n1_ := Aside0.mk (below_step (by repeat (first | (with_reducible first | exact HB.out | apply below_alloc | apply pw_below_drewN | apply below_drew1) | exact HB.out)) hb); clear HB; have HO401 := n0_; have HB := n1_; clear n0_ n1_; (try clear hb); (try clear hb2); (try clear hk); (try clear hi); (try clear ho0); obtain ⟨Ao11, co11, eo11⟩ := Kd.R_slice HO401.out; subst eo11; have p402 : 0 ≤ (0 : Int) := (by omega); have q402 : 0 < (t399.length : Int) := of_decide_eq_true (by first | (with_reducible assumption) | assumption); obtain ⟨ad402, e402, hx402_0⟩ := Kd.at_int (Kd.R_reads' HO401.out).2.2 0 p402 q402; cases e402; have qi402 : (0 < t399.length) = True := eq_true (by omega); (try rw [show ((0 : Int)).toNat = 0 from rfl] at hx402_0); (try rw [Addr.add_zero'] at hx402_0); replace p402 := eq_true p402; replace q402 := eq_true q402; have p403 : 0 ≤ (1 : Int) := (by omega); have q403 : 1 < (t399.length : Int) := of_decide_eq_true (by first | (with_reducible assumption) | assumption); obtain ⟨ad403, e403, hx403_0⟩ := Kd.at_int (Kd.R_reads' HO401.out).2.2 1 p403 q403; obtain rfl : ad402 = ad403 := (by injection e403); (try simp only [show (1 : Int).toNat = 1 from rfl, Nat.reduceMul, Nat.reduceEqDiff, Go.Addr.add, ↓reduceIte] at hx403_0); have qi403 : (1 < t399.length) = True := eq_true (by omega); (try rw [show ((1 : Int)).toNat = 1 from rfl] at hx403_0); replace p403 := eq_true p403; replace q403 := eq_true q403; have p404 : 0 ≤ (2 : Int) := (by omega); have q404 : 2 < (t399.length : Int) := of_decide_eq_true (by first | (with_reducible assumption) | assumption); obtain ⟨ad404, e404, hx404_0⟩ := Kd.at_int (Kd.R_reads' HO401.out).2.2 2 p404 q404; obtain rfl : ad402 = ad404 := (by injection e404); (try simp only [show (2 : Int).toNat = 2 from rfl, Nat.reduceMul, Nat.reduceEqDiff, Go.Addr.add, ↓reduceIte] at hx404_0); have qi404 : (2 < t399.length) = True := eq_true (by omega); (try rw [show ((2 : Int)).toNat = 2 from rfl] at hx404_0); replace p404 := eq_true p404; replace q404 := eq_true q404; have p405 : 0 ≤ (3 : Int) := (by omega); have q405 : 3 < (t399.length : Int) := of_decide_eq_true (by first | (with_reducible assumption) | assumption); obtain ⟨ad405, e405, hx405_0⟩ := Kd.at_int (Kd.R_reads' HO401.out).2.2 3 p405 q405; obtain rfl : ad402 = ad405 := (by injection e405); (try simp only [show (3 : Int).toNat = 3 from rfl, Nat.reduceMul, Nat.reduceEqDiff, Go.Addr.add, ↓reduceIte] at hx405_0); have qi405 : (3 < t399.length) = True := eq_true (by omega); (try rw [show ((3 : Int)).toNat = 3 from rfl] at hx405_0); replace p405 := eq_true p405; replace q405 := eq_true q405)); try go_wp2_with (first | (go_at_call 56; (with_reducible refine (magnetoref04_Widths.calls k _ _ l0 t399 _ ?side1 ?side2 A2.out).mono ?_); (case side1 => repeat (first | exact HR0.out | (with_reducible refine Kd.C_alloc ?_ _) | (with_reducible refine Kd.C_drewN ?_ _) | (with_reducible refine Kd.C_drew ?_))); (case side2 => exact HC0.out); rintro e w10 ⟨v400, rfl, ho0, hb⟩; have n0_ := Aside0.mk (Kd.R_lower ho0 (below_size (by repeat (first | (with_reducible first | exact HB.out | apply below_alloc | apply pw_below_drewN | apply below_drew1) | exact HB.out)))); have n1_ := Aside0.mk (below_step (by repeat (first | (with_reducible first | exact HB.out | apply below_alloc | apply pw_below_drewN | apply below_drew1) | exact HB.out)) hb); clear HB; have HO401 := n0_; have HB := n1_; clear n0_ n1_; (try clear hb); (try clear hb2); (try clear hk); (try clear hi); (try clear ho0); obtain ⟨Ao11, co11, eo11⟩ := Kd.R_slice HO401.out; subst eo11; have p402 : 0 ≤ (0 : Int) := (by omega); have q402 : 0 < (t399.length : Int) := of_decide_eq_true (by first | (with_reducible assumption) | assumption); obtain ⟨ad402, e402, hx402_0⟩ := Kd.at_int (Kd.R_reads' HO401.out).2.2 0 p402 q402; cases e402; have qi402 : (0 < t399.length) = True := eq_true (by omega); (try rw [show ((0 : Int)).toNat = 0 from rfl] at hx402_0); (try rw [Addr.add_zero'] at hx402_0); replace p402 := eq_true p402; replace q402 := eq_true q402; have p403 : 0 ≤ (1 : Int) := (by omega); have q403 : 1 < (t399.length : Int) := of_decide_eq_true (by first | (with_reducible assumption) | assumption); obtain ⟨ad403, e403, hx403_0⟩ := Kd.at_int (Kd.R_reads' HO401.out).2.2 1 p403 q403; obtain rfl : ad402 = ad403 := (by injection e403); (try simp only [show (1 : Int).toNat = 1 from rfl, Nat.reduceMul, Nat.reduceEqDiff, Go.Addr.add, ↓reduceIte] at hx403_0); have qi403 : (1 < t399.length) = True := eq_true (by omega); (try rw [show ((1 : Int)).toNat = 1 from rfl] at hx403_0); replace p403 := eq_true p403; replace q403 := eq_true q403; have p404 : 0 ≤ (2 : Int) := (by omega); have q404 : 2 < (t399.length : Int) := of_decide_eq_true (by first | (with_reducible assumption) | assumption); obtain ⟨ad404, e404, hx404_0⟩ := Kd.at_int (Kd.R_reads' HO401.out).2.2 2 p404 q404; obtain rfl : ad402 = ad404 := (by injection e404); (try simp only [show (2 : Int).toNat = 2 from rfl, Nat.reduceMul, Nat.reduceEqDiff, Go.Addr.add, ↓reduceIte] at hx404_0); have qi404 : (2 < t399.length) = True := eq_true (by omega); (try rw [show ((2 : Int)).toNat = 2 from rfl] at hx404_0); replace p404 := eq_true p404; replace q404 := eq_true q404; have p405 : 0 ≤ (3 : Int) := (by omega); have q405 : 3 < (t399.length : Int) := of_decide_eq_true (by first | (with_reducible assumption) | assumption); obtain ⟨ad405, e405, hx405_0⟩ := Kd.at_int (Kd.R_reads' HO401.out).2.2 3 p405 q405; obtain rfl : ad402 = ad405 := (by injection e405); (try simp only [show (3 : Int).toNat = 3 from rfl, Nat.reduceMul, Nat.reduceEqDiff, Go.Addr.add, ↓reduceIte] at hx405_0); have qi405 : (3 < t399.length) = True := eq_true (by omega); (try rw [show ((3 : Int)).toNat = 3 from rfl] at hx405_0); replace p405 := eq_true p405; replace q405 := eq_true q405)))
      go_ret
      exact ⟨by first | rfl | (simp [errW_none, errW_some] <;> rfl) | (simp [*, errW_none, errW_some] <;> rfl), by repeat (first | (with_reducible first | exact HB.out | apply below_alloc | apply pw_below_drewN | apply below_drew1) | exact HB.out)⟩
     ·
      rw [if_neg c9] at H
      exact absurd H (by simp)
    ·
     rw [if_neg c8] at H
     exact absurd H (by simp)
   ·
    rw [if_neg c7] at H
    exact absurd H (by simp)
  ·
   rw [if_neg c6] at H
   exact absurd H (by simp)

/-! ### magnetoref04_Next: function 27 -/
def magnetoref04_Next.l0 : Nat → List Int → Int → Int → Option (Int × Int)
 | 0, _, _, _ => none
 | k + 1, x4, x5, x6 => if x6 < (x4.length : Int) then (if 0 ≤ x6 then (if x5 < (rd x4 x6) then (some (x6, x5)) else (magnetoref04_Next.l0 k x4 (wrap64 (x5 - (rd x4 x6))) (wrap64 (x6 + 1)))) else (none)) else (if (x4.length : Int) = 1 then (some (1, x5)) else (if x5 > 0 then (some ((-1), 0)) else (some (9, 0))))
def magnetoref04_Next.f (k : Nat) (l0 : List Int) : Option (Int × Int) := (magnetoref04_Widths.f k l0).bind fun t406 => (magnetoref04_Next.l0 k t406 (l0.length : Int) 0)
theorem magnetoref04_Next.mono_l : ∀ k, (∀ y0 y1 y2, LeO (magnetoref04_Next.l0 k y0 y1 y2) (magnetoref04_Next.l0 (k + 1) y0 y1 y2))
 | 0 => fun _ _ _ r h => by simp [magnetoref04_Next.l0] at h
 | k + 1 => by
  have ih0 := magnetoref04_Next.mono_l k
  ·
   intro y0 y1 y2
   unfold magnetoref04_Next.l0
   repeat' first
   | (with_reducible exact ih0 _ _ _)
   | (with_reducible exact magnetoref04_Widths.mono _ _)
   | (with_reducible exact LeO.refl _)
   | (with_reducible exact LeO.none _)
   | (with_reducible refine LeO.ite ?_ ?_)
   | (with_reducible refine LeO.bind ?_ (fun _ => ?_))
   | exact ih0 _ _ _
   | exact magnetoref04_Widths.mono _ _
   | exact LeO.none _
   | refine LeO.ite ?_ ?_
   | refine LeO.bind ?_ (fun _ => ?_)
theorem magnetoref04_Next.mono : ∀ a0 k, LeO (magnetoref04_Next.f k a0) (magnetoref04_Next.f (k + 1) a0) := by
 intro a0 k
 have ih0 := magnetoref04_Next.mono_l k
 unfold magnetoref04_Next.f
 repeat' first
   | (with_reducible exact ih0 _ _ _)
   | (with_reducible exact magnetoref04_Widths.mono _ _)
   | (with_reducible exact LeO.refl _)
   | (with_reducible exact LeO.none _)
   | (with_reducible refine LeO.ite ?_ ?_)
   | (with_reducible refine LeO.bind ?_ (fun _ => ?_))
   | exact ih0 _ _ _
   | exact magnetoref04_Widths.mono _ _
   | exact LeO.none _
   | refine LeO.ite ?_ ?_
   | refine LeO.bind ?_ (fun _ => ?_)
set_option maxHeartbeats 8000000 in
set_option maxRecDepth 100000 in
theorem magnetoref04_Next.calls (k : Nat) (A0 : Option Addr) (c0 : Nat) (l0 : List Int) (r1 : Int) (r2 : Int) (w : World) (hr0 : Kd.C (Kd.int .i64) w A0 l0.length l0) (hc0 : l0.length ≤ c0) (h : magnetoref04_Next.f k l0 = some (r1, r2)) :
  Calls Try.prog 27 #[.slice A0 l0.length c0] w fun e w' => e = .returned (.tuple #[.int .i64 r1, .int .i64 r2]) ∧ Below w.heap.size w w' := by
 have HR0 := Aside0.mk hr0
 have HC0 := Aside0.mk hc0
 clear hr0 hc0
 have HB := Aside0.mk (Below.refl w.heap.size w)
 have H : ((magnetoref04_Widths.f k l0).bind fun t406 => (magnetoref04_Next.l0 k t406 (l0.length : Int) 0)) = some (r1, r2) := h
 clear h
 replace H := Option.bind_eq_some_iff.mp H
 obtain ⟨t406, A20, H⟩ := H
 replace H : (magnetoref04_Next.l0 k t406 (l0.length : Int) 0) = some (r1, r2) := H
 have A2 := Aside0.mk A20
 clear A20
 have H' := Aside0.mk H
 clear H
 go_enter Try.func27, Try.ntmps27
 go_wp2_with (first | ((with_reducible refine gate_callee (f := 56) rfl ?_); refine goesL_ (some 8) rfl rfl Try.func56 (by kernel_rfl) rfl #[.slice A0 l0.length c0] rfl (by (try simp only [List.map_toArray, List.map_cons, List.map_nil]); first | done | rfl | (simp only [List.length_drop, List.length_take]; rfl)) ?_; (with_reducible refine (magnetoref04_Widths.calls k _ _ l0 t406 _ ?side1 ?side2 A2.out).mono ?_); (case side1 => repeat (first | exact HR0.out | (with_reducible refine Kd.C_alloc ?_ _) | (with_reducible refine Kd.C_drewN ?_ _) | (with_reducible refine Kd.C_drew ?_))); (case side2 => exact HC0.out); rintro e w3 ⟨v407, rfl, ho0, hb⟩; refine ⟨_, rfl, ?_⟩; have n0_ := Aside0.mk (Kd.R_lower ho0 (below_size (by repeat (first | (with_reducible first | exact HB.out | apply below_alloc | apply pw_below_drewN | apply below_drew1) | exact HB.out)))); have n1_ := Aside0.mk (below_step (by repeat (first | (with_reducible first | exact HB.out | apply below_alloc | apply pw_below_drewN | apply below_drew1) | exact HB.out)) hb); clear HB; have HO408 := n0_; have HB := n1_; clear n0_ n1_; (try clear hb); (try clear hb2); (try clear hk); (try clear hi); (try clear ho0)))
 go_loopg [5, 6] k (fun kq v5 v6 w' => ∃ (x5_1 : Int) (x6_1 : Int), v5 = .int .i64 x5_1 ∧ v6 = .int .i64 x6_1 ∧ Aside0 (magnetoref04_Next.l0 kq t406 x5_1 x6_1 = some (r1, r2)) ∧ Aside0 (kq ≤ k) ∧ Aside0 (Kd.R (Kd.int .i64) 3 w' w.heap.size (fun _ => True) v407 t406) ∧ Aside0 (Below w.heap.size w w'))
 case atStart => exact ⟨((l0.length : Int)), (0), (by first | rfl | (simp; done) | (simp [*]; done)), (by first | rfl | (simp; done) | (simp [*]; done)), H', ⟨Nat.le_refl _⟩, ⟨by (with_reducible repeat (first | apply Kd.R_alloc | apply Kd.R_drewN | apply Kd.R_drew)); exact HO408.out⟩, ⟨by repeat (first | (with_reducible first | exact HB.out | apply below_alloc | apply pw_below_drewN | apply below_drew1) | exact HB.out)⟩⟩
 case round =>
  clear H'
  try clear c2
  try clear p2
  obtain ⟨x5_1, x6_1, rfl, rfl, HA, HK1, HO_4, HB⟩ := hrel
  cases gk with
  | zero => exact absurd HA.out (by simp [magnetoref04_Next.l0])
  | succ k1 =>
   have H := HA.out
   clear HA
   simp only [magnetoref04_Next.l0] at H
   by_cases c4 : x6_1 < (t406.length : Int)
   ·
    rw [if_pos c4] at H
    have c4b0 : decide (x6_1 < (t406.length : Int)) = true := decide_eq_true c4
    clear c4
    by_cases c5 : 0 ≤ x6_1
    ·
     rw [if_pos c5] at H
     have c5b0 : decide (0 ≤ x6_1) = true := decide_eq_true c5
     clear c5
     by_cases c6 : x5_1 < (rd t406 x6_1)
     ·
      rw [if_pos c6] at H
      have c6b0 : decide (x5_1 < (rd t406 x6_1)) = true := decide_eq_true c6
      clear c6
      simp only [Option.some.injEq, Prod.mk.injEq] at H
      obtain ⟨rfl, rfl⟩ := H
      obtain ⟨Ao7, co7, eo7⟩ := Kd.R_slice HO_4.out
      subst eo7
      have p409 : 0 ≤ (x6_1 : Int) := of_decide_eq_true (by first | (with_reducible assumption) | assumption)
      have q409 : x6_1 < (t406.length : Int) := of_decide_eq_true (by first | (with_reducible assumption) | assumption)
      obtain ⟨ad409, e409, hx409_0⟩ := Kd.at_int (Kd.R_reads' HO_4.out).2.2 x6_1 p409 q409
      cases e409
      replace p409 := eq_true p409
      replace q409 := eq_true q409
      go_wp2
      go_ret2
      exact ⟨by first | rfl | (simp [errW_none, errW_some] <;> rfl) | (simp [*, errW_none, errW_some] <;> rfl), by repeat (first | (with_reducible first | exact HB.out | apply below_alloc | apply pw_below_drewN | apply below_drew1) | exact HB.out)⟩
     ·
      rw [if_neg c6] at H
      have c6b0 : decide (x5_1 < (rd t406 x6_1)) = false := decide_eq_false c6
      clear c6
      have H' := Aside0.mk H
      clear H
      obtain ⟨Ao8, co8, eo8⟩ := Kd.R_slice HO_4.out
      subst eo8
      have p409 : 0 ≤ (x6_1 : Int) := of_decide_eq_true (by first | (with_reducible assumption) | assumption)
      have q409 : x6_1 < (t406.length : Int) := of_decide_eq_true (by first | (with_reducible assumption) | assumption)
      obtain ⟨ad409, e409, hx409_0⟩ := Kd.at_int (Kd.R_reads' HO_4.out).2.2 x6_1 p409 q409
      cases e409
      replace p409 := eq_true p409
      replace q409 := eq_true q409
      have p410 : 0 ≤ (x6_1 : Int) := of_decide_eq_true (by first | (with_reducible assumption) | assumption)
      have q410 : x6_1 < (t406.length : Int) := of_decide_eq_true (by first | (with_reducible assumption) | assumption)
      obtain ⟨ad410, e410, hx410_0⟩ := Kd.at_int (Kd.R_reads' HO_4.out).2.2 x6_1 p410 q410
      obtain rfl : ad409 = ad410 := (by injection e410)
      replace p410 := eq_true p410
      replace q410 := eq_true q410
      go_wp2
      go_roundg k1
      case measure => have := HK1.out; omega
      case rel => exact ⟨(wrap64 (x5_1 - (rd t406 x6_1))), (wrap64 (x6_1 + 1)), (by first | rfl | (simp; done) | (simp [*]; done)), (by first | rfl | (simp; done) | (simp [*]; done)), H', ⟨by have := HK1.out; omega⟩, ⟨by (with_reducible repeat (first | apply Kd.R_alloc | apply Kd.R_drewN | apply Kd.R_drew)); exact HO_4.out⟩, ⟨by repeat (first | (with_reducible first | exact HB.out | apply below_alloc | apply pw_below_drewN | apply below_drew1) | exact HB.out)⟩⟩
    ·
     rw [if_neg c5] at H
     exact absurd H (by simp)
   ·
    rw [if_neg c4] at H
    have c4b0 : decide (x6_1 < (t406.length : Int)) = false := decide_eq_false c4
    clear c4
    by_cases c9 : (t406.length : Int) = 1
    ·
     rw [if_pos c9] at H
     have c9b0 : ((t406.length : Int) == 1) = true := beq_iff_eq.mpr c9
     have c9b1 : ((t406.length : Int) != 1) = false := bne_eq_false_iff_eq.mpr c9
     clear c9
     simp only [Option.some.injEq, Prod.mk.injEq] at H
     obtain ⟨rfl, rfl⟩ := H
     obtain ⟨Ao10, co10, eo10⟩ := Kd.R_slice HO_4.out
     subst eo10
     go_wp2
     go_ret2
     exact ⟨by first | rfl | (simp [errW_none, errW_some] <;> rfl) | (simp [*, errW_none, errW_some] <;> rfl), by repeat (first | (with_reducible first | exact HB.out | apply below_alloc | apply pw_below_drewN | apply below_drew1) | exact HB.out)⟩
    ·
     rw [if_neg c9] at H
     have c9b0 : ((t406.length : Int) == 1) = false := beq_eq_false_iff_ne.mpr c9
     have c9b1 : ((t406.length : Int) != 1) = true := bne_iff_ne.mpr c9
     by_cases c11 : x5_1 > 0
     ·
      rw [if_pos c11] at H
      have c11b0 : decide (0 < x5_1) = true := decide_eq_true c11
      clear c11
      simp only [Option.some.injEq, Prod.mk.injEq] at H
      obtain ⟨rfl, rfl⟩ := H
      obtain ⟨Ao12, co12, eo12⟩ := Kd.R_slice HO_4.out
      subst eo12
      go_wp2
      go_ret2
      exact ⟨by first | rfl | (simp [errW_none, errW_some] <;> rfl) | (simp [*, errW_none, errW_some] <;> rfl), by repeat (first | (with_reducible first | exact HB.out | apply below_alloc | apply pw_below_drewN | apply below_drew1) | exact HB.out)⟩
     ·
      rw [if_neg c11] at H
      have c11b0 : decide (0 < x5_1) = false := decide_eq_false c11
      clear c11
      simp only [Option.some.injEq, Prod.mk.injEq] at H
      obtain ⟨rfl, rfl⟩ := H
      obtain ⟨Ao13, co13, eo13⟩ := Kd.R_slice HO_4.out
      subst eo13
      go_wp2
      go_ret2
      exact ⟨by first | rfl | (simp [errW_none, errW_some] <;> rfl) | (simp [*, errW_none, errW_some] <;> rfl), by repeat (first | (with_reducible first | exact HB.out | apply below_alloc | apply pw_below_drewN | apply below_drew1) | exact HB.out)⟩

/-! ### magnetolaw04_kind: function 28 -/
def magnetolaw04_kind.l0 : Nat → Int → List Int → Int → Option (Int)
 | 0, _, _, _ => none
 | k + 1, x0, x3, x4 => if x4 < (x3.length : Int) then (if 0 ≤ x4 then (if (rd x3 x4) = x0 then (some x4) else (magnetolaw04_kind.l0 k x0 x3 (wrap64 (x4 + 1)))) else (none)) else (some (-1))
def magnetolaw04_kind.f (k : Nat) (a0 : Int) : Option (Int) := magnetolaw04_kind.l0 k a0 (([0, 1, 2, 3, 4, 5, 6, 7, 8, 9] : List Int)) 0
theorem magnetolaw04_kind.mono_l : ∀ k, (∀ y0 y1 y2, LeO (magnetolaw04_kind.l0 k y0 y1 y2) (magnetolaw04_kind.l0 (k + 1) y0 y1 y2))
 | 0 => fun _ _ _ r h => by simp [magnetolaw04_kind.l0] at h
 | k + 1 => by
  have ih0 := magnetolaw04_kind.mono_l k
  ·
   intro y0 y1 y2
   unfold magnetolaw04_kind.l0
   repeat' first
   | (with_reducible exact ih0 _ _ _)
   | (with_reducible exact LeO.refl _)
   | (with_reducible exact LeO.none _)
   | (with_reducible refine LeO.ite ?_ ?_)
   | (with_reducible refine LeO.bind ?_ (fun _ => ?_))
   | exact ih0 _ _ _
   | exact LeO.none _
   | refine LeO.ite ?_ ?_
   | refine LeO.bind ?_ (fun _ => ?_)
theorem magnetolaw04_kind.mono : ∀ a0 k, LeO (magnetolaw04_kind.f k a0) (magnetolaw04_kind.f (k + 1) a0) := by
 intro a0 k
 have ih0 := magnetolaw04_kind.mono_l k
 unfold magnetolaw04_kind.f
 repeat' first
   | (with_reducible exact ih0 _ _ _)
   | (with_reducible exact LeO.refl _)
   | (with_reducible exact LeO.none _)
   | (with_reducible refine LeO.ite ?_ ?_)
   | (with_reducible refine LeO.bind ?_ (fun _ => ?_))
   | exact ih0 _ _ _
   | exact LeO.none _
   | refine LeO.ite ?_ ?_
   | refine LeO.bind ?_ (fun _ => ?_)
set_option maxHeartbeats 8000000 in
set_option maxRecDepth 100000 in
theorem magnetolaw04_kind.calls (k : Nat) (a0 : Int) (r : Int) (w : World) (h : magnetolaw04_kind.f k a0 = some r) :
  Calls Try.prog 28 #[.int .i64 a0] w fun e w' => e = .returned (.int .i64 r) ∧ Below w.heap.size w w' := by
 have HB := Aside0.mk (Below.refl w.heap.size w)
 have H : (magnetolaw04_kind.l0 k a0 (([0, 1, 2, 3, 4, 5, 6, 7, 8, 9] : List Int)) 0) = some r := h
 clear h
 obtain ⟨y411, hy411⟩ : ∃ y_ : List Int, y_ = (([0, 1, 2, 3, 4, 5, 6, 7, 8, 9] : List Int)) := ⟨_, rfl⟩
 replace H : (magnetolaw04_kind.l0 k a0 y411 0) = some r := by first | (rw [hy411]; with_reducible exact H) | (have H2_ := (Option.bind_some _ _).symm.trans H; rw [hy411]; with_reducible exact H2_) | (have H2_ := (Option.bind_some _ _).symm.trans H; with_reducible exact H2_) | with_reducible exact H | (rw [hy411]; exact H) | exact H
 have Ny411 := Aside0.mk hy411
 clear hy411
 have H' := Aside0.mk H
 clear H
 go_enter Try.func28, Try.ntmps28
 go_wp2_with (first | ((with_reducible refine gate_dst (N := 5) rfl ?_); refine Kd.R_lit (Kd.int .i64) _ 3 ?hg (N := 5) ?hd (xs := ([0, 1, 2, 3, 4, 5, 6, 7, 8, 9] : List Int)) (inner := [.int .i64 0, .int .i64 1, .int .i64 2, .int .i64 3, .int .i64 4, .int .i64 5, .int .i64 6, .int .i64 7, .int .i64 8, .int .i64 9]) (ok := fun _ => True) (okp := fun _ => True) ?hr ?hp (fun _ hk => hk) trivial (Below.refl _ _) (Nat.le_refl _) (by simp) ?_; (case hd => rfl); (case hg => rfl); (case hr => first | (go_simp; done) | (go_simp; rfl)); (case hp => exact (Reps.one (show Kd.M (Kd.int .i64) _ _ _ 0 [.int .i64 0] from rfl) (Reps.one (show Kd.M (Kd.int .i64) _ _ _ 1 [.int .i64 1] from rfl) (Reps.one (show Kd.M (Kd.int .i64) _ _ _ 2 [.int .i64 2] from rfl) (Reps.one (show Kd.M (Kd.int .i64) _ _ _ 3 [.int .i64 3] from rfl) (Reps.one (show Kd.M (Kd.int .i64) _ _ _ 4 [.int .i64 4] from rfl) (Reps.one (show Kd.M (Kd.int .i64) _ _ _ 5 [.int .i64 5] from rfl) (Reps.one (show Kd.M (Kd.int .i64) _ _ _ 6 [.int .i64 6] from rfl) (Reps.one (show Kd.M (Kd.int .i64) _ _ _ 7 [.int .i64 7] from rfl) (Reps.one (show Kd.M (Kd.int .i64) _ _ _ 8 [.int .i64 8] from rfl) (Reps.one (show Kd.M (Kd.int .i64) _ _ _ 9 [.int .i64 9] from rfl) (Reps.none _ _)))))))))))); intro v412 w2 ho3 hb hg_ hnew_; clear hg_ hnew_; (first | rw [← Ny411.out] at ho3 | (simp only [Int.reduceToNat] at ho3; rw [← Ny411.out] at ho3)); have n0_ := Aside0.mk (Kd.R_lower ho3 (below_size (by repeat (first | (with_reducible first | exact HB.out | apply below_alloc | apply pw_below_drewN | apply below_drew1) | exact HB.out)))); have n1_ := Aside0.mk (below_step (by repeat (first | (with_reducible first | exact HB.out | apply below_alloc | apply pw_below_drewN | apply below_drew1) | exact HB.out)) hb); clear HB; have HO413 := n0_; have HB := n1_; clear n0_ n1_; clear hb ho3))
 go_loopg [4] k (fun kq v4 w' => ∃ (x4_1 : Int), v4 = .int .i64 x4_1 ∧ Aside0 (magnetolaw04_kind.l0 kq a0 y411 x4_1 = some r) ∧ Aside0 (kq ≤ k) ∧ Aside0 (Kd.R (Kd.int .i64) 3 w' w.heap.size (fun _ => True) v412 y411) ∧ Aside0 (Below w.heap.size w w'))
 case atStart => exact ⟨(0), (by first | rfl | (simp; done) | (simp [*]; done)), H', ⟨Nat.le_refl _⟩, ⟨by (with_reducible repeat (first | apply Kd.R_alloc | apply Kd.R_drewN | apply Kd.R_drew)); exact HO413.out⟩, ⟨by repeat (first | (with_reducible first | exact HB.out | apply below_alloc | apply pw_below_drewN | apply below_drew1) | exact HB.out)⟩⟩
 case round =>
  clear H'
  try clear c2
  try clear p2
  obtain ⟨x4_1, rfl, HA, HK1, HO_3, HB⟩ := hrel
  cases gk with
  | zero => exact absurd HA.out (by simp [magnetolaw04_kind.l0])
  | succ k1 =>
   have H := HA.out
   clear HA
   simp only [magnetolaw04_kind.l0] at H
   by_cases c4 : x4_1 < (y411.length : Int)
   ·
    rw [if_pos c4] at H
    have c4b0 : decide (x4_1 < (y411.length : Int)) = true := decide_eq_true c4
    clear c4
    by_cases c5 : 0 ≤ x4_1
    ·
     rw [if_pos c5] at H
     have c5b0 : decide (0 ≤ x4_1) = true := decide_eq_true c5
     clear c5
     by_cases c6 : (rd y411 x4_1) = a0
     ·
      rw [if_pos c6] at H
      have c6b0 : ((rd y411 x4_1) == a0) = true := beq_iff_eq.mpr c6
      have c6b1 : ((rd y411 x4_1) != a0) = false := bne_eq_false_iff_eq.mpr c6
      clear c6
      obtain rfl := Option.some.inj H
      obtain ⟨Ao7, co7, eo7⟩ := Kd.R_slice HO_3.out
      subst eo7
      have p414 : 0 ≤ (x4_1 : Int) := of_decide_eq_true (by first | (with_reducible assumption) | assumption)
      have q414 : x4_1 < (y411.length : Int) := of_decide_eq_true (by first | (with_reducible assumption) | assumption)
      obtain ⟨ad414, e414, hx414_0⟩ := Kd.at_int (Kd.R_reads' HO_3.out).2.2 x4_1 p414 q414
      cases e414
      replace p414 := eq_true p414
      replace q414 := eq_true q414
      go_wp2
      go_ret
      exact ⟨by first | rfl | (simp [errW_none, errW_some] <;> rfl) | (simp [*, errW_none, errW_some] <;> rfl), by repeat (first | (with_reducible first | exact HB.out | apply below_alloc | apply pw_below_drewN | apply below_drew1) | exact HB.out)⟩
     ·
      rw [if_neg c6] at H
      have c6b0 : ((rd y411 x4_1) == a0) = false := beq_eq_false_iff_ne.mpr c6
      have c6b1 : ((rd y411 x4_1) != a0) = true := bne_iff_ne.mpr c6
      have H' := Aside0.mk H
      clear H
      obtain ⟨Ao8, co8, eo8⟩ := Kd.R_slice HO_3.out
      subst eo8
      have p414 : 0 ≤ (x4_1 : Int) := of_decide_eq_true (by first | (with_reducible assumption) | assumption)
      have q414 : x4_1 < (y411.length : Int) := of_decide_eq_true (by first | (with_reducible assumption) | assumption)
      obtain ⟨ad414, e414, hx414_0⟩ := Kd.at_int (Kd.R_reads' HO_3.out).2.2 x4_1 p414 q414
      cases e414
      replace p414 := eq_true p414
      replace q414 := eq_true q414
      go_wp2
      go_roundg k1
      case measure => have := HK1.out; omega
      case rel => exact ⟨(wrap64 (x4_1 + 1)), (by first | rfl | (simp; done) | (simp [*]; done)), H', ⟨by have := HK1.out; omega⟩, ⟨by (with_reducible repeat (first | apply Kd.R_alloc | apply Kd.R_drewN | apply Kd.R_drew)); exact HO_3.out⟩, ⟨by repeat (first | (with_reducible first | exact HB.out | apply below_alloc | apply pw_below_drewN | apply below_drew1) | exact HB.out)⟩⟩
    ·
     rw [if_neg c5] at H
     exact absurd H (by simp)
   ·
    rw [if_neg c4] at H
    have c4b0 : decide (x4_1 < (y411.length : Int)) = false := decide_eq_false c4
    clear c4
    obtain rfl := Option.some.inj H
    obtain ⟨Ao9, co9, eo9⟩ := Kd.R_slice HO_3.out
    subst eo9
    go_wp2
    go_ret
    exact ⟨by first | rfl | (simp [errW_none, errW_some] <;> rfl) | (simp [*, errW_none, errW_some] <;> rfl), by repeat (first | (with_reducible first | exact HB.out | apply below_alloc | apply pw_below_drewN | apply below_drew1) | exact HB.out)⟩

end Go.Proofs.Ytakemodmdhglnaa.PA
