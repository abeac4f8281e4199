/- Functions of the program, in plain Lean, and their walks (printed; half the indent). Conditions: none. -/
-- PRINTED by print.py (a twelfth state) out of the translation. Not trusted: Lean checks it.
import Derived.Test.YtipflkbpjnacnaaPAx0
import Derived.Test.YtipflkbpjnacnaaPAx1
import Derived.Test.YtipflkbpjnacnaaPAx8
import Derived.Test.YtipflkbpjnacnaaPAx12
import Derived.Test.YtipflkbpjnacnaaPAx13
import Derived.Test.YtipflkbpjnacnaaPAx14
import Derived.Test.YtipflkbpjnacnaaPAx15
namespace Go.Proofs.Ytipflkbpjnacnaa.PA
open Go.RowKit Go.Proofs.YtipflkbpjnacnaaW.PrintWords Go.Proofs.YtipflkbpjnacnaaW.PrintLast Go.Proofs.YtipflkbpjnacnaaW.PrintMore
attribute [local go_sem] max2_int min2_int max_two min_two max_three min_three max_four min_four   -- for this text's walks alone
set_option linter.unusedVariables false
set_option linter.unusedSimpArgs false

/-! ### stuff_Take: function 46 -/
def stuff_Take.l0 : Nat → List Int → List Int → Int → Int → Int → List Int → Int → Int → Option (List Int × Int × Int)
 | 0, _, _, _, _, _, _, _, _ => none
 | k + 1, x0, x6, x7, x8, x9, x21, x22, x23 => if x23 < x22 then (if 0 ≤ x23 then (if x23 < (x21.length : Int) then (if x7 = 5 then (if 0 ≤ (wrap64 (x23 - 1)) then (if (wrap64 (x23 - 1)) < (x0.length : Int) then (if (rd x21 x23) = (rd x0 (wrap64 (x23 - 1))) then (some (([] : List Int), x23, 17)) else (if x23 > 0 then (stuff_Take.l0 k x0 x6 1 x8 x9 x21 x22 (wrap64 (x23 + 1))) else (stuff_Take.l0 k x0 x6 1 x8 x9 x21 x22 (wrap64 (x23 + 1))))) else (none)) else (none)) else (if x23 > 0 then (if 0 ≤ (wrap64 (x23 - 1)) then (if (wrap64 (x23 - 1)) < (x0.length : Int) then (if (rd x21 x23) = (rd x0 (wrap64 (x23 - 1))) then (if x6.length < 17592186044416 then (stuff_Take.l0 k x0 (x6 ++ [rd x21 x23]) (wrap64 (x7 + 1)) x8 x9 x21 x22 (wrap64 (x23 + 1))) else (none)) else (if x6.length < 17592186044416 then (stuff_Take.l0 k x0 (x6 ++ [rd x21 x23]) 1 x8 x9 x21 x22 (wrap64 (x23 + 1))) else (none))) else (none)) else (none)) else (if x6.length < 17592186044416 then (stuff_Take.l0 k x0 (x6 ++ [rd x21 x23]) 1 x8 x9 x21 x22 (wrap64 (x23 + 1))) else (none)))) else (none)) else (none)) else (if x9 = 0 then (if x7 = 5 then (some (([] : List Int), (x0.length : Int), 13)) else (some (x6, 0, 0))) else (some (([] : List Int), x8, x9)))
def stuff_Take.f (k : Nat) (l0 : List Int) : Option (List Int × Int × Int) := (bits_Check.f l0).bind fun t389 => (if t389 ≥ 0 then (some (([] : List Int), t389, 10)) else (if 0 ≤ (l0.length : Int) then (if ((l0.length : Int) : Int).toNat ≤ 35184372088832 then (stuff_Take.l0 k l0 ([] : List Int) 0 0 0 l0 (l0.length : Int) 0) else (none)) else (none)))
theorem stuff_Take.mono_l : ∀ k, (∀ y0 y1 y2 y3 y4 y5 y6 y7, LeO (stuff_Take.l0 k y0 y1 y2 y3 y4 y5 y6 y7) (stuff_Take.l0 (k + 1) y0 y1 y2 y3 y4 y5 y6 y7))
 | 0 => fun _ _ _ _ _ _ _ _ r h => by simp [stuff_Take.l0] at h
 | k + 1 => by
  have ih0 := stuff_Take.mono_l k
  ·
   intro y0 y1 y2 y3 y4 y5 y6 y7
   unfold stuff_Take.l0
   repeat' first
   | (with_reducible exact ih0 _ _ _ _ _ _ _ _)
   | (with_reducible exact LeO.refl _)
   | (with_reducible exact LeO.none _)
   | (with_reducible refine LeO.ite ?_ ?_)
   | (with_reducible refine LeO.bind ?_ (fun _ => ?_))
   | exact ih0 _ _ _ _ _ _ _ _
   | exact LeO.none _
   | refine LeO.ite ?_ ?_
   | refine LeO.bind ?_ (fun _ => ?_)
theorem stuff_Take.mono : ∀ a0 k, LeO (stuff_Take.f k a0) (stuff_Take.f (k + 1) a0) := by
 intro a0 k
 have ih0 := stuff_Take.mono_l k
 unfold stuff_Take.f
 repeat' first
   | (with_reducible exact ih0 _ _ _ _ _ _ _ _)
   | (with_reducible exact LeO.refl _)
   | (with_reducible exact LeO.none _)
   | (with_reducible refine LeO.ite ?_ ?_)
   | (with_reducible refine LeO.bind ?_ (fun _ => ?_))
   | exact ih0 _ _ _ _ _ _ _ _
   | exact LeO.none _
   | refine LeO.ite ?_ ?_
   | refine LeO.bind ?_ (fun _ => ?_)
set_option maxHeartbeats 8000000 in
set_option maxRecDepth 100000 in
theorem stuff_Take.calls (k : Nat) (A0 : Option Addr) (c0 : Nat) (l0 : List Int) (r1 : List Int) (r2 : Int) (r3 : Int) (w : World) (hr0 : Kd.C (Kd.int .i64) w A0 l0.length l0) (hc0 : l0.length ≤ c0) (h : stuff_Take.f k l0 = some (r1, r2, r3)) :
  Calls Try.prog 46 #[.slice A0 l0.length c0] w fun e w' => ∃ v0_ : Value, e = .returned (.tuple #[v0_, .int .i64 r2, .int .i64 r3]) ∧ Kd.R (Kd.int .i64) 3 w' w.heap.size (fun _ => True) v0_ r1 ∧ Below w.heap.size w w' := by
 have HR0 := Aside0.mk hr0
 have HC0 := Aside0.mk hc0
 clear hr0 hc0
 have HB := Aside0.mk (Below.refl w.heap.size w)
 have H : ((bits_Check.f l0).bind fun t389 => (if t389 ≥ 0 then (some (([] : List Int), t389, 10)) else (if 0 ≤ (l0.length : Int) then (if ((l0.length : Int) : Int).toNat ≤ 35184372088832 then (stuff_Take.l0 k l0 ([] : List Int) 0 0 0 l0 (l0.length : Int) 0) else (none)) else (none)))) = some (r1, r2, r3) := h
 clear h
 replace H := Option.bind_eq_some_iff.mp H
 obtain ⟨t389, A20, H⟩ := H
 replace H : (if t389 ≥ 0 then (some (([] : List Int), t389, 10)) else (if 0 ≤ (l0.length : Int) then (if ((l0.length : Int) : Int).toNat ≤ 35184372088832 then (stuff_Take.l0 k l0 ([] : List Int) 0 0 0 l0 (l0.length : Int) 0) else (none)) else (none))) = some (r1, r2, r3) := H
 have A2 := Aside0.mk A20
 clear A20
 by_cases c3 : t389 ≥ 0
 ·
  rw [if_pos c3] at H
  have c3b0 : decide (0 ≤ t389) = true := decide_eq_true c3
  clear c3
  simp only [Option.some.injEq, Prod.mk.injEq] at H
  obtain ⟨rfl, rfl, rfl⟩ := H
  go_enter Try.func46, Try.ntmps46
  go_wp2_with (first | go_step3 | ((with_reducible refine gate_callee (f := 32) rfl ?_); refine goesL_ (some 14) rfl rfl Try.func32 (by kernel_rfl) rfl #[.slice A0 l0.length c0] rfl (by (try simp only [List.map_toArray, List.map_cons, List.map_nil]); first | done | rfl | (simp only [List.length_drop, List.length_take]; rfl)) ?_; (with_reducible refine (bits_Check.calls _ _ l0 t389 _ ?side1 ?side2 A2.out).mono ?_); (case side1 => repeat (first | exact HR0.out | (with_reducible refine Kd.C_alloc ?_ _) | (with_reducible refine Kd.C_drewN ?_ _) | (with_reducible refine Kd.C_drew ?_))); (case side2 => exact HC0.out); rintro e w' ⟨rfl, ⟨nd, rfl⟩⟩; refine ⟨_, rfl, ?_⟩))
  (first | go_ret3 | (rw [Exit.noGoto_ret]; go_ret3))
  exact ⟨_, by first | rfl | (simp [errW_none, errW_some] <;> rfl) | (simp [*, errW_none, errW_some] <;> rfl), by first | exact Kd.R_nil _ _ _ _ _ | exact Kd.N_nil _ _ _ _ _ | exact Kd.V_nil _ _ _ _ _ | exact Kd.Q_nil _ _ _ _ _ | exact Kd.S_nil _ _ _ _ _, by repeat (first | (with_reducible first | exact HB.out | apply below_alloc | apply pw_below_drewN | apply below_drew1) | exact HB.out)⟩
 ·
  rw [if_neg c3] at H
  have c3b0 : decide (0 ≤ t389) = false := decide_eq_false c3
  clear c3
  by_cases c4 : 0 ≤ (l0.length : Int)
  ·
   rw [if_pos c4] at H
   have c4b0 := eq_true c4
   have c4b1 : decide (0 ≤ (l0.length : Int)) = true := decide_eq_true c4
   clear c4
   by_cases c5 : ((l0.length : Int) : Int).toNat ≤ 35184372088832
   ·
    rw [if_pos c5] at H
    have c5b0 := eq_true c5
    have c5b1 : decide (((l0.length : Int) : Int).toNat ≤ 35184372088832) = true := decide_eq_true c5
    clear c5
    obtain ⟨y390, hy390⟩ : ∃ y_ : List Int, y_ = ([] : List Int) := ⟨_, rfl⟩
    replace H : (stuff_Take.l0 k l0 y390 0 0 0 l0 (l0.length : Int) 0) = some (r1, r2, r3) := by first | (rw [hy390]; with_reducible exact H) | (have H2_ := (Option.bind_some _ _).symm.trans H; rw [hy390]; with_reducible exact H2_) | (have H2_ := (Option.bind_some _ _).symm.trans H; with_reducible exact H2_) | with_reducible exact H | (rw [hy390]; exact H) | exact H
    have Ny390 := Aside0.mk hy390
    clear hy390
    have H' := Aside0.mk H
    clear H
    go_enter Try.func46, Try.ntmps46
    go_wp2_with (first | go_step3 | ((with_reducible refine gate_callee (f := 32) rfl ?_); refine goesL_ (some 14) rfl rfl Try.func32 (by kernel_rfl) rfl #[.slice A0 l0.length c0] rfl (by (try simp only [List.map_toArray, List.map_cons, List.map_nil]); first | done | rfl | (simp only [List.length_drop, List.length_take]; rfl)) ?_; (with_reducible refine (bits_Check.calls _ _ l0 t389 _ ?side1 ?side2 A2.out).mono ?_); (case side1 => repeat (first | exact HR0.out | (with_reducible refine Kd.C_alloc ?_ _) | (with_reducible refine Kd.C_drewN ?_ _) | (with_reducible refine Kd.C_drew ?_))); (case side2 => exact HC0.out); rintro e w' ⟨rfl, ⟨nd, rfl⟩⟩; refine ⟨_, rfl, ?_⟩) | ((with_reducible refine gate_dst (N := 20) rfl ?_); refine R_make0 (Kd.int .i64) _ 3 rfl (N := 20) rfl 22 _ _ rfl (l0.length : Int) rfl rfl Try.underlying22 (.int .i64 0) 8 info3 rfl (by decide) (by omega) 0 (ok := fun _ => True) (okp := fun _ => True) rfl (fun _ hk => hk) trivial (of_decide_eq_true (by first | (with_reducible assumption) | assumption)) (Nat.le_trans (Nat.mul_le_mul_right _ (of_decide_eq_true (by first | (with_reducible assumption) | assumption) : (l0.length : Int).toNat ≤ 35184372088832)) (by omega)) (Below.refl _ _) (Nat.le_refl _) ?_; intro v391 w6 ho7 hb hg_ hnew_; clear hg_ hnew_; (first | rw [← Ny390.out] at ho7 | (simp only [Int.reduceToNat] at ho7; rw [← Ny390.out] at ho7)); have n0_ := Aside0.mk (Kd.R_lower ho7 (below_size (by repeat (first | (with_reducible first | exact HB.out | apply below_alloc | apply pw_below_drewN | apply below_drew1) | exact HB.out)))); have n1_ := Aside0.mk (below_step (by repeat (first | (with_reducible first | exact HB.out | apply below_alloc | apply pw_below_drewN | apply below_drew1) | exact HB.out)) hb); clear HB; have HO392 := n0_; have HB := n1_; clear n0_ n1_; clear hb ho7))
    go_loopg [6, 7, 8, 9, 23] k (fun kq v6 v7 v8 v9 v23 w' => ∃ (x6_1 : List Int) (x7_1 : Int) (x8_1 : Int) (x9_1 : Int) (x23_1 : Int), v7 = .int .i64 x7_1 ∧ v8 = .int .i64 x8_1 ∧ v9 = .int .i64 x9_1 ∧ v23 = .int .i64 x23_1 ∧ Aside0 (stuff_Take.l0 kq l0 x6_1 x7_1 x8_1 x9_1 l0 (l0.length : Int) x23_1 = some (r1, r2, r3)) ∧ Aside0 (kq ≤ k) ∧ Aside0 (Kd.R (Kd.int .i64) 3 w' w.heap.size (fun _ => True) v6 x6_1) ∧ Aside0 (Below w.heap.size w w'))
    case atStart => exact ⟨(y390), (0), (0), (0), (0), (by first | rfl | (simp; done) | (simp [*]; done)), (by first | rfl | (simp; done) | (simp [*]; done)), (by first | rfl | (simp; done) | (simp [*]; done)), (by first | rfl | (simp; done) | (simp [*]; done)), H', ⟨Nat.le_refl _⟩, ⟨by (with_reducible repeat (first | apply Kd.R_alloc | apply Kd.R_drewN | apply Kd.R_drew)); exact HO392.out⟩, ⟨by repeat (first | (with_reducible first | exact HB.out | apply below_alloc | apply pw_below_drewN | apply below_drew1) | exact HB.out)⟩⟩
    case round =>
     clear H'
     try clear p2
     try clear c3
     try clear c3b0
     try clear c4
     try clear c4b0
     try clear c4b1
     try clear c5
     try clear c5b0
     try clear c5b1
     obtain ⟨x6_1, x7_1, x8_1, x9_1, x23_1, rfl, rfl, rfl, rfl, HA, HK1, HO_6, HB⟩ := hrel
     cases gk with
     | zero => exact absurd HA.out (by simp [stuff_Take.l0])
     | succ k1 =>
      have H := HA.out
      clear HA
      simp only [stuff_Take.l0] at H
      by_cases c8 : x23_1 < (l0.length : Int)
      ·
       rw [if_pos c8] at H
       have c8b0 : decide (x23_1 < (l0.length : Int)) = true := decide_eq_true c8
       clear c8
       by_cases c9 : 0 ≤ x23_1
       ·
        rw [if_pos c9] at H
        have c9b0 : decide (0 ≤ x23_1) = true := decide_eq_true c9
        clear c9
        by_cases c10 : x23_1 < (l0.length : Int)
        ·
         rw [if_pos c10] at H
         have c10b0 : decide (x23_1 < (l0.length : Int)) = true := decide_eq_true c10
         clear c10
         by_cases c11 : x7_1 = 5
         ·
          rw [if_pos c11] at H
          have c11b0 : (x7_1 == 5) = true := beq_iff_eq.mpr c11
          have c11b1 : (x7_1 != 5) = false := bne_eq_false_iff_eq.mpr c11
          clear c11
          obtain ⟨ji12, hji12⟩ : ∃ j_ : Int, (wrap64 (x23_1 - 1)) = j_ := ⟨_, rfl⟩
          replace H : (if 0 ≤ (ji12) then (if (ji12) < (l0.length : Int) then (if (rd l0 x23_1) = (rd l0 (ji12)) then (some (([] : List Int), x23_1, 17)) else (if x23_1 > 0 then (stuff_Take.l0 k1 l0 x6_1 1 x8_1 x9_1 l0 (l0.length : Int) (wrap64 (x23_1 + 1))) else (stuff_Take.l0 k1 l0 x6_1 1 x8_1 x9_1 l0 (l0.length : Int) (wrap64 (x23_1 + 1))))) else (none)) else (none)) = some (r1, r2, r3) := by first | (rw [hji12] at H; exact H) | (simp only [hji12] at H ⊢; exact H)
          have hji12w : (IntKind.i64.wrap (x23_1 - 1)) = ji12 := (i64_w _).trans hji12
          by_cases c13 : 0 ≤ (ji12)
          ·
           rw [if_pos c13] at H
           have c13b0 : decide (0 ≤ (ji12)) = true := decide_eq_true c13
           clear c13
           by_cases c14 : (ji12) < (l0.length : Int)
           ·
            rw [if_pos c14] at H
            have c14b0 : decide ((ji12) < (l0.length : Int)) = true := decide_eq_true c14
            clear c14
            by_cases c15 : (rd l0 x23_1) = (rd l0 (ji12))
            ·
             rw [if_pos c15] at H
             have c15b0 : ((rd l0 x23_1) == (rd l0 (ji12))) = true := beq_iff_eq.mpr c15
             have c15b1 : ((rd l0 x23_1) != (rd l0 (ji12))) = false := bne_eq_false_iff_eq.mpr c15
             clear c15
             simp only [Option.some.injEq, Prod.mk.injEq] at H
             obtain ⟨rfl, rfl, rfl⟩ := H
             have p393 : 0 ≤ (x23_1 : Int) := of_decide_eq_true (by first | (with_reducible assumption) | assumption)
             have q393 : x23_1 < (l0.length : Int) := of_decide_eq_true (by first | (with_reducible assumption) | assumption)
             obtain ⟨ad393, e393, hx393_0⟩ := Kd.at_int HR0.out x23_1 p393 q393
             cases e393
             replace hx393_0 := (HB.out.cell (World.block_lt_of_cell? w _ hx393_0)).trans hx393_0
             replace p393 := eq_true p393
             replace q393 := eq_true q393
             have p394 : 0 ≤ ((ji12) : Int) := of_decide_eq_true (by first | (with_reducible assumption) | assumption)
             have q394 : (ji12) < (l0.length : Int) := of_decide_eq_true (by first | (with_reducible assumption) | assumption)
             obtain ⟨ad394, e394, hx394_0⟩ := Kd.at_int HR0.out (ji12) p394 q394
             obtain rfl : ad393 = ad394 := (by injection e394)
             replace hx394_0 := (HB.out.cell (World.block_lt_of_cell? w _ hx394_0)).trans hx394_0
             replace p394 := eq_true p394
             replace q394 := eq_true q394
             go_wp2_with go_step3
             (first | go_ret3 | (rw [Exit.noGoto_ret]; go_ret3))
             exact ⟨_, by first | rfl | (simp [errW_none, errW_some] <;> rfl) | (simp only [← hji12]; first | rfl | (simp [errW_none, errW_some] <;> rfl)) | (simp [*, errW_none, errW_some] <;> rfl), by first | exact Kd.R_nil _ _ _ _ _ | exact Kd.N_nil _ _ _ _ _ | exact Kd.V_nil _ _ _ _ _ | exact Kd.Q_nil _ _ _ _ _ | exact Kd.S_nil _ _ _ _ _, by repeat (first | (with_reducible first | exact HB.out | apply below_alloc | apply pw_below_drewN | apply below_drew1) | exact HB.out)⟩
            ·
             rw [if_neg c15] at H
             have c15b0 : ((rd l0 x23_1) == (rd l0 (ji12))) = false := beq_eq_false_iff_ne.mpr c15
             have c15b1 : ((rd l0 x23_1) != (rd l0 (ji12))) = true := bne_iff_ne.mpr c15
             by_cases c16 : x23_1 > 0
             ·
              rw [if_pos c16] at H
              have c16b0 : decide (0 < x23_1) = true := decide_eq_true c16
              clear c16
              have H' := Aside0.mk H
              clear H
              have p393 : 0 ≤ (x23_1 : Int) := of_decide_eq_true (by first | (with_reducible assumption) | assumption)
              have q393 : x23_1 < (l0.length : Int) := of_decide_eq_true (by first | (with_reducible assumption) | assumption)
              obtain ⟨ad393, e393, hx393_0⟩ := Kd.at_int HR0.out x23_1 p393 q393
              cases e393
              replace hx393_0 := (HB.out.cell (World.block_lt_of_cell? w _ hx393_0)).trans hx393_0
              replace p393 := eq_true p393
              replace q393 := eq_true q393
              have p394 : 0 ≤ ((ji12) : Int) := of_decide_eq_true (by first | (with_reducible assumption) | assumption)
              have q394 : (ji12) < (l0.length : Int) := of_decide_eq_true (by first | (with_reducible assumption) | assumption)
              obtain ⟨ad394, e394, hx394_0⟩ := Kd.at_int HR0.out (ji12) p394 q394
              obtain rfl : ad393 = ad394 := (by injection e394)
              replace hx394_0 := (HB.out.cell (World.block_lt_of_cell? w _ hx394_0)).trans hx394_0
              replace p394 := eq_true p394
              replace q394 := eq_true q394
              have p395 : 0 ≤ ((ji12) : Int) := of_decide_eq_true (by first | (with_reducible assumption) | assumption)
              have q395 : (ji12) < (l0.length : Int) := of_decide_eq_true (by first | (with_reducible assumption) | assumption)
              obtain ⟨ad395, e395, hx395_0⟩ := Kd.at_int HR0.out (ji12) p395 q395
              obtain rfl : ad393 = ad395 := (by injection e395)
              replace hx395_0 := (HB.out.cell (World.block_lt_of_cell? w _ hx395_0)).trans hx395_0
              replace p395 := eq_true p395
              replace q395 := eq_true q395
              go_wp2_with go_step3
              go_roundg k1
              case measure => have := HK1.out; omega
              case rel => exact ⟨(x6_1), (1), (x8_1), (x9_1), (wrap64 (x23_1 + 1)), (by first | rfl | (simp; done) | (simp [*]; done)), (by first | rfl | (simp; done) | (simp [*]; done)), (by first | rfl | (simp; done) | (simp [*]; done)), (by first | rfl | (simp; done) | (simp [*]; done)), H', ⟨by have := HK1.out; omega⟩, ⟨by (with_reducible repeat (first | apply Kd.R_alloc | apply Kd.R_drewN | apply Kd.R_drew)); exact HO_6.out⟩, ⟨by repeat (first | (with_reducible first | exact HB.out | apply below_alloc | apply pw_below_drewN | apply below_drew1) | exact HB.out)⟩⟩
             ·
              rw [if_neg c16] at H
              have c16b0 : decide (0 < x23_1) = false := decide_eq_false c16
              clear c16
              have H' := Aside0.mk H
              clear H
              have p393 : 0 ≤ (x23_1 : Int) := of_decide_eq_true (by first | (with_reducible assumption) | assumption)
              have q393 : x23_1 < (l0.length : Int) := of_decide_eq_true (by first | (with_reducible assumption) | assumption)
              obtain ⟨ad393, e393, hx393_0⟩ := Kd.at_int HR0.out x23_1 p393 q393
              cases e393
              replace hx393_0 := (HB.out.cell (World.block_lt_of_cell? w _ hx393_0)).trans hx393_0
              replace p393 := eq_true p393
              replace q393 := eq_true q393
              have p394 : 0 ≤ ((ji12) : Int) := of_decide_eq_true (by first | (with_reducible assumption) | assumption)
              have q394 : (ji12) < (l0.length : Int) := of_decide_eq_true (by first | (with_reducible assumption) | assumption)
              obtain ⟨ad394, e394, hx394_0⟩ := Kd.at_int HR0.out (ji12) p394 q394
              obtain rfl : ad393 = ad394 := (by injection e394)
              replace hx394_0 := (HB.out.cell (World.block_lt_of_cell? w _ hx394_0)).trans hx394_0
              replace p394 := eq_true p394
              replace q394 := eq_true q394
              go_wp2_with go_step3
              go_roundg k1
              case measure => have := HK1.out; omega
              case rel => exact ⟨(x6_1), (1), (x8_1), (x9_1), (wrap64 (x23_1 + 1)), (by first | rfl | (simp; done) | (simp [*]; done)), (by first | rfl | (simp; done) | (simp [*]; done)), (by first | rfl | (simp; done) | (simp [*]; done)), (by first | rfl | (simp; done) | (simp [*]; done)), H', ⟨by have := HK1.out; omega⟩, ⟨by (with_reducible repeat (first | apply Kd.R_alloc | apply Kd.R_drewN | apply Kd.R_drew)); exact HO_6.out⟩, ⟨by repeat (first | (with_reducible first | exact HB.out | apply below_alloc | apply pw_below_drewN | apply below_drew1) | exact HB.out)⟩⟩
           ·
            rw [if_neg c14] at H
            exact absurd H (by simp)
          ·
           rw [if_neg c13] at H
           exact absurd H (by simp)
         ·
          rw [if_neg c11] at H
          have c11b0 : (x7_1 == 5) = false := beq_eq_false_iff_ne.mpr c11
          have c11b1 : (x7_1 != 5) = true := bne_iff_ne.mpr c11
          by_cases c17 : x23_1 > 0
          ·
           rw [if_pos c17] at H
           have c17b0 : decide (0 < x23_1) = true := decide_eq_true c17
           clear c17
           obtain ⟨ji18, hji18⟩ : ∃ j_ : Int, (wrap64 (x23_1 - 1)) = j_ := ⟨_, rfl⟩
           replace H : (if 0 ≤ (ji18) then (if (ji18) < (l0.length : Int) then (if (rd l0 x23_1) = (rd l0 (ji18)) then (if x6_1.length < 17592186044416 then (stuff_Take.l0 k1 l0 (x6_1 ++ [rd l0 x23_1]) (wrap64 (x7_1 + 1)) x8_1 x9_1 l0 (l0.length : Int) (wrap64 (x23_1 + 1))) else (none)) else (if x6_1.length < 17592186044416 then (stuff_Take.l0 k1 l0 (x6_1 ++ [rd l0 x23_1]) 1 x8_1 x9_1 l0 (l0.length : Int) (wrap64 (x23_1 + 1))) else (none))) else (none)) else (none)) = some (r1, r2, r3) := by first | (rw [hji18] at H; exact H) | (simp only [hji18] at H ⊢; exact H)
           have hji18w : (IntKind.i64.wrap (x23_1 - 1)) = ji18 := (i64_w _).trans hji18
           by_cases c19 : 0 ≤ (ji18)
           ·
            rw [if_pos c19] at H
            have c19b0 : decide (0 ≤ (ji18)) = true := decide_eq_true c19
            clear c19
            by_cases c20 : (ji18) < (l0.length : Int)
            ·
             rw [if_pos c20] at H
             have c20b0 : decide ((ji18) < (l0.length : Int)) = true := decide_eq_true c20
             clear c20
             by_cases c21 : (rd l0 x23_1) = (rd l0 (ji18))
             ·
              rw [if_pos c21] at H
              have c21b0 : ((rd l0 x23_1) == (rd l0 (ji18))) = true := beq_iff_eq.mpr c21
              have c21b1 : ((rd l0 x23_1) != (rd l0 (ji18))) = false := bne_eq_false_iff_eq.mpr c21
              clear c21
              by_cases c22 : x6_1.length < 17592186044416
              ·
               rw [if_pos c22] at H
               have LMc22 := Aside0.mk c22
               clear c22
               obtain ⟨y397, hy397⟩ : ∃ y_ : List Int, y_ = (x6_1 ++ [rd l0 x23_1]) := ⟨_, rfl⟩
               replace H : (stuff_Take.l0 k1 l0 y397 (wrap64 (x7_1 + 1)) x8_1 x9_1 l0 (l0.length : Int) (wrap64 (x23_1 + 1))) = some (r1, r2, r3) := by first | (rw [hy397]; with_reducible exact H) | (have H2_ := (Option.bind_some _ _).symm.trans H; rw [hy397]; with_reducible exact H2_) | (have H2_ := (Option.bind_some _ _).symm.trans H; with_reducible exact H2_) | with_reducible exact H | (rw [hy397]; exact H) | exact H
               have Ny397 := Aside0.mk hy397
               clear hy397
               have H' := Aside0.mk H
               clear H
               have p393 : 0 ≤ (x23_1 : Int) := of_decide_eq_true (by first | (with_reducible assumption) | assumption)
               have q393 : x23_1 < (l0.length : Int) := of_decide_eq_true (by first | (with_reducible assumption) | assumption)
               obtain ⟨ad393, e393, hx393_0⟩ := Kd.at_int HR0.out x23_1 p393 q393
               cases e393
               replace hx393_0 := (HB.out.cell (World.block_lt_of_cell? w _ hx393_0)).trans hx393_0
               replace p393 := eq_true p393
               replace q393 := eq_true q393
               have p396 : 0 ≤ ((ji18) : Int) := of_decide_eq_true (by first | (with_reducible assumption) | assumption)
               have q396 : (ji18) < (l0.length : Int) := of_decide_eq_true (by first | (with_reducible assumption) | assumption)
               obtain ⟨ad396, e396, hx396_0⟩ := Kd.at_int HR0.out (ji18) p396 q396
               obtain rfl : ad393 = ad396 := (by injection e396)
               replace hx396_0 := (HB.out.cell (World.block_lt_of_cell? w _ hx396_0)).trans hx396_0
               replace p396 := eq_true p396
               replace q396 := eq_true q396
               go_wp2_with (first | go_step3 | ((with_reducible refine gate_builtin (b := .append) (xs := #[.tmp 58, .tmp 60]) rfl ?_); at_builtin; refine Kd.R_append (Kd.int .i64) (w0 := w) w.heap.size rfl (.tmp 58) (.tmp 60) 22 3 (.int .i64 0) 8 rfl Try.underlying22 info3 rfl (by decide) (by omega) u6 x6_1 (rd l0 x23_1) [.int .i64 (rd l0 x23_1)] (fun _ => True) (fun _ => False) rfl rfl ?aP (fun _ hk => hk.elim) ?aF ?aO ?aB ?aS ?aL ?_; (case aP => exact rfl); (case aB => exact (by repeat (first | (with_reducible first | exact HB.out | apply below_alloc | apply pw_below_drewN | apply below_drew1) | exact HB.out))); (case aF => exact (fun _ _ => trivial)); (case aO => exact (by (with_reducible repeat (first | apply Kd.R_alloc | apply Kd.R_drewN | apply Kd.R_drew)); exact HO_6.out)); (case aS => exact (below_size (by repeat (first | (with_reducible first | exact HB.out | apply below_alloc | apply pw_below_drewN | apply below_drew1) | exact HB.out)))); (case aL => have := LMc22.out; omega); intro v398 w23 ho hb hg hat; rw [← Ny397.out] at ho; have n0_ := Aside0.mk (hb); have n1_ := Aside0.mk (ho); clear HB; clear HO_6; have HB := n0_; have HO399 := n1_; clear n0_ n1_; clear ho hb hg hat))
               go_roundg k1
               case measure => have := HK1.out; omega
               case rel => exact ⟨(y397), (wrap64 (x7_1 + 1)), (x8_1), (x9_1), (wrap64 (x23_1 + 1)), (by first | rfl | (simp; done) | (simp [*]; done)), (by first | rfl | (simp; done) | (simp [*]; done)), (by first | rfl | (simp; done) | (simp [*]; done)), (by first | rfl | (simp; done) | (simp [*]; done)), H', ⟨by have := HK1.out; omega⟩, ⟨by (with_reducible repeat (first | apply Kd.R_alloc | apply Kd.R_drewN | apply Kd.R_drew)); exact HO399.out⟩, ⟨by repeat (first | (with_reducible first | exact HB.out | apply below_alloc | apply pw_below_drewN | apply below_drew1) | exact HB.out)⟩⟩
              ·
               rw [if_neg c22] at H
               exact absurd H (by simp)
             ·
              rw [if_neg c21] at H
              have c21b0 : ((rd l0 x23_1) == (rd l0 (ji18))) = false := beq_eq_false_iff_ne.mpr c21
              have c21b1 : ((rd l0 x23_1) != (rd l0 (ji18))) = true := bne_iff_ne.mpr c21
              by_cases c24 : x6_1.length < 17592186044416
              ·
               rw [if_pos c24] at H
               have LMc24 := Aside0.mk c24
               clear c24
               obtain ⟨y400, hy400⟩ : ∃ y_ : List Int, y_ = (x6_1 ++ [rd l0 x23_1]) := ⟨_, rfl⟩
               replace H : (stuff_Take.l0 k1 l0 y400 1 x8_1 x9_1 l0 (l0.length : Int) (wrap64 (x23_1 + 1))) = some (r1, r2, r3) := by first | (rw [hy400]; with_reducible exact H) | (have H2_ := (Option.bind_some _ _).symm.trans H; rw [hy400]; with_reducible exact H2_) | (have H2_ := (Option.bind_some _ _).symm.trans H; with_reducible exact H2_) | with_reducible exact H | (rw [hy400]; exact H) | exact H
               have Ny400 := Aside0.mk hy400
               clear hy400
               have H' := Aside0.mk H
               clear H
               have p393 : 0 ≤ (x23_1 : Int) := of_decide_eq_true (by first | (with_reducible assumption) | assumption)
               have q393 : x23_1 < (l0.length : Int) := of_decide_eq_true (by first | (with_reducible assumption) | assumption)
               obtain ⟨ad393, e393, hx393_0⟩ := Kd.at_int HR0.out x23_1 p393 q393
               cases e393
               replace hx393_0 := (HB.out.cell (World.block_lt_of_cell? w _ hx393_0)).trans hx393_0
               replace p393 := eq_true p393
               replace q393 := eq_true q393
               have p396 : 0 ≤ ((ji18) : Int) := of_decide_eq_true (by first | (with_reducible assumption) | assumption)
               have q396 : (ji18) < (l0.length : Int) := of_decide_eq_true (by first | (with_reducible assumption) | assumption)
               obtain ⟨ad396, e396, hx396_0⟩ := Kd.at_int HR0.out (ji18) p396 q396
               obtain rfl : ad393 = ad396 := (by injection e396)
               replace hx396_0 := (HB.out.cell (World.block_lt_of_cell? w _ hx396_0)).trans hx396_0
               replace p396 := eq_true p396
               replace q396 := eq_true q396
               go_wp2_with (first | go_step3 | ((with_reducible refine gate_builtin (b := .append) (xs := #[.tmp 58, .tmp 60]) rfl ?_); at_builtin; refine Kd.R_append (Kd.int .i64) (w0 := w) w.heap.size rfl (.tmp 58) (.tmp 60) 22 3 (.int .i64 0) 8 rfl Try.underlying22 info3 rfl (by decide) (by omega) u6 x6_1 (rd l0 x23_1) [.int .i64 (rd l0 x23_1)] (fun _ => True) (fun _ => False) rfl rfl ?aP (fun _ hk => hk.elim) ?aF ?aO ?aB ?aS ?aL ?_; (case aP => exact rfl); (case aB => exact (by repeat (first | (with_reducible first | exact HB.out | apply below_alloc | apply pw_below_drewN | apply below_drew1) | exact HB.out))); (case aF => exact (fun _ _ => trivial)); (case aO => exact (by (with_reducible repeat (first | apply Kd.R_alloc | apply Kd.R_drewN | apply Kd.R_drew)); exact HO_6.out)); (case aS => exact (below_size (by repeat (first | (with_reducible first | exact HB.out | apply below_alloc | apply pw_below_drewN | apply below_drew1) | exact HB.out)))); (case aL => have := LMc24.out; omega); intro v401 w25 ho hb hg hat; rw [← Ny400.out] at ho; have n0_ := Aside0.mk (hb); have n1_ := Aside0.mk (ho); clear HB; clear HO_6; have HB := n0_; have HO402 := n1_; clear n0_ n1_; clear ho hb hg hat))
               go_roundg k1
               case measure => have := HK1.out; omega
               case rel => exact ⟨(y400), (1), (x8_1), (x9_1), (wrap64 (x23_1 + 1)), (by first | rfl | (simp; done) | (simp [*]; done)), (by first | rfl | (simp; done) | (simp [*]; done)), (by first | rfl | (simp; done) | (simp [*]; done)), (by first | rfl | (simp; done) | (simp [*]; done)), H', ⟨by have := HK1.out; omega⟩, ⟨by (with_reducible repeat (first | apply Kd.R_alloc | apply Kd.R_drewN | apply Kd.R_drew)); exact HO402.out⟩, ⟨by repeat (first | (with_reducible first | exact HB.out | apply below_alloc | apply pw_below_drewN | apply below_drew1) | exact HB.out)⟩⟩
              ·
               rw [if_neg c24] at H
               exact absurd H (by simp)
            ·
             rw [if_neg c20] at H
             exact absurd H (by simp)
           ·
            rw [if_neg c19] at H
            exact absurd H (by simp)
          ·
           rw [if_neg c17] at H
           have c17b0 : decide (0 < x23_1) = false := decide_eq_false c17
           clear c17
           by_cases c26 : x6_1.length < 17592186044416
           ·
            rw [if_pos c26] at H
            have LMc26 := Aside0.mk c26
            clear c26
            obtain ⟨y403, hy403⟩ : ∃ y_ : List Int, y_ = (x6_1 ++ [rd l0 x23_1]) := ⟨_, rfl⟩
            replace H : (stuff_Take.l0 k1 l0 y403 1 x8_1 x9_1 l0 (l0.length : Int) (wrap64 (x23_1 + 1))) = some (r1, r2, r3) := by first | (rw [hy403]; with_reducible exact H) | (have H2_ := (Option.bind_some _ _).symm.trans H; rw [hy403]; with_reducible exact H2_) | (have H2_ := (Option.bind_some _ _).symm.trans H; with_reducible exact H2_) | with_reducible exact H | (rw [hy403]; exact H) | exact H
            have Ny403 := Aside0.mk hy403
            clear hy403
            have H' := Aside0.mk H
            clear H
            have p393 : 0 ≤ (x23_1 : Int) := of_decide_eq_true (by first | (with_reducible assumption) | assumption)
            have q393 : x23_1 < (l0.length : Int) := of_decide_eq_true (by first | (with_reducible assumption) | assumption)
            obtain ⟨ad393, e393, hx393_0⟩ := Kd.at_int HR0.out x23_1 p393 q393
            cases e393
            replace hx393_0 := (HB.out.cell (World.block_lt_of_cell? w _ hx393_0)).trans hx393_0
            replace p393 := eq_true p393
            replace q393 := eq_true q393
            go_wp2_with (first | go_step3 | ((with_reducible refine gate_builtin (b := .append) (xs := #[.tmp 58, .tmp 60]) rfl ?_); at_builtin; refine Kd.R_append (Kd.int .i64) (w0 := w) w.heap.size rfl (.tmp 58) (.tmp 60) 22 3 (.int .i64 0) 8 rfl Try.underlying22 info3 rfl (by decide) (by omega) u6 x6_1 (rd l0 x23_1) [.int .i64 (rd l0 x23_1)] (fun _ => True) (fun _ => False) rfl rfl ?aP (fun _ hk => hk.elim) ?aF ?aO ?aB ?aS ?aL ?_; (case aP => exact rfl); (case aB => exact (by repeat (first | (with_reducible first | exact HB.out | apply below_alloc | apply pw_below_drewN | apply below_drew1) | exact HB.out))); (case aF => exact (fun _ _ => trivial)); (case aO => exact (by (with_reducible repeat (first | apply Kd.R_alloc | apply Kd.R_drewN | apply Kd.R_drew)); exact HO_6.out)); (case aS => exact (below_size (by repeat (first | (with_reducible first | exact HB.out | apply below_alloc | apply pw_below_drewN | apply below_drew1) | exact HB.out)))); (case aL => have := LMc26.out; omega); intro v404 w27 ho hb hg hat; rw [← Ny403.out] at ho; have n0_ := Aside0.mk (hb); have n1_ := Aside0.mk (ho); clear HB; clear HO_6; have HB := n0_; have HO405 := n1_; clear n0_ n1_; clear ho hb hg hat))
            go_roundg k1
            case measure => have := HK1.out; omega
            case rel => exact ⟨(y403), (1), (x8_1), (x9_1), (wrap64 (x23_1 + 1)), (by first | rfl | (simp; done) | (simp [*]; done)), (by first | rfl | (simp; done) | (simp [*]; done)), (by first | rfl | (simp; done) | (simp [*]; done)), (by first | rfl | (simp; done) | (simp [*]; done)), H', ⟨by have := HK1.out; omega⟩, ⟨by (with_reducible repeat (first | apply Kd.R_alloc | apply Kd.R_drewN | apply Kd.R_drew)); exact HO405.out⟩, ⟨by repeat (first | (with_reducible first | exact HB.out | apply below_alloc | apply pw_below_drewN | apply below_drew1) | exact HB.out)⟩⟩
           ·
            rw [if_neg c26] at H
            exact absurd H (by simp)
        ·
         rw [if_neg c10] at H
         exact absurd H (by simp)
       ·
        rw [if_neg c9] at H
        exact absurd H (by simp)
      ·
       rw [if_neg c8] at H
       have c8b0 : decide (x23_1 < (l0.length : Int)) = false := decide_eq_false c8
       clear c8
       by_cases c28 : x9_1 = 0
       ·
        rw [if_pos c28] at H
        have c28b0 : (x9_1 == 0) = true := beq_iff_eq.mpr c28
        have c28b1 : (x9_1 != 0) = false := bne_eq_false_iff_eq.mpr c28
        clear c28
        by_cases c29 : x7_1 = 5
        ·
         rw [if_pos c29] at H
         have c29b0 : (x7_1 == 5) = true := beq_iff_eq.mpr c29
         have c29b1 : (x7_1 != 5) = false := bne_eq_false_iff_eq.mpr c29
         clear c29
         simp only [Option.some.injEq, Prod.mk.injEq] at H
         obtain ⟨rfl, rfl, rfl⟩ := H
         go_wp2_with go_step3
         (first | go_ret3 | (rw [Exit.noGoto_ret]; go_ret3))
         exact ⟨_, by first | rfl | (simp [errW_none, errW_some] <;> rfl) | (simp [*, errW_none, errW_some] <;> rfl), by first | exact Kd.R_nil _ _ _ _ _ | exact Kd.N_nil _ _ _ _ _ | exact Kd.V_nil _ _ _ _ _ | exact Kd.Q_nil _ _ _ _ _ | exact Kd.S_nil _ _ _ _ _, by repeat (first | (with_reducible first | exact HB.out | apply below_alloc | apply pw_below_drewN | apply below_drew1) | exact HB.out)⟩
        ·
         rw [if_neg c29] at H
         have c29b0 : (x7_1 == 5) = false := beq_eq_false_iff_ne.mpr c29
         have c29b1 : (x7_1 != 5) = true := bne_iff_ne.mpr c29
         simp only [Option.some.injEq, Prod.mk.injEq] at H
         obtain ⟨rfl, rfl, rfl⟩ := H
         go_wp2_with go_step3
         (first | go_ret3 | (rw [Exit.noGoto_ret]; go_ret3))
         exact ⟨_, by first | rfl | (simp [errW_none, errW_some] <;> rfl) | (simp [*, errW_none, errW_some] <;> rfl), by (with_reducible repeat (first | apply Kd.R_alloc | apply Kd.R_drewN | apply Kd.R_drew)); exact HO_6.out, by repeat (first | (with_reducible first | exact HB.out | apply below_alloc | apply pw_below_drewN | apply below_drew1) | exact HB.out)⟩
       ·
        rw [if_neg c28] at H
        have c28b0 : (x9_1 == 0) = false := beq_eq_false_iff_ne.mpr c28
        have c28b1 : (x9_1 != 0) = true := bne_iff_ne.mpr c28
        simp only [Option.some.injEq, Prod.mk.injEq] at H
        obtain ⟨rfl, rfl, rfl⟩ := H
        go_wp2_with go_step3
        (first | go_ret3 | (rw [Exit.noGoto_ret]; go_ret3))
        exact ⟨_, by first | rfl | (simp [errW_none, errW_some] <;> rfl) | (simp [*, errW_none, errW_some] <;> rfl), by first | exact Kd.R_nil _ _ _ _ _ | exact Kd.N_nil _ _ _ _ _ | exact Kd.V_nil _ _ _ _ _ | exact Kd.Q_nil _ _ _ _ _ | exact Kd.S_nil _ _ _ _ _, by repeat (first | (with_reducible first | exact HB.out | apply below_alloc | apply pw_below_drewN | apply below_drew1) | exact HB.out)⟩
   ·
    rw [if_neg c5] at H
    exact absurd H (by simp)
  ·
   rw [if_neg c4] at H
   exact absurd H (by simp)

/-! ### magnetolaw05_awake: function 40 -/
def magnetolaw05_awake.f (k : Nat)  : Option (Bool) := (stuff_Most.f 9).bind fun bt406 => ((stuff_Take.f k (([0, 0, 0, 0, 0, 0] : List Int))).bind fun bt411 => ((stuff_Take.f k (([0, 0, 0, 0, 0] : List Int))).bind fun bt419 => ((stuff_Add.f (([0, 0, 0, 0, 0, 1] : List Int))).bind fun t427 => ((magnetolaw05_ints.f k t427 (([0, 0, 0, 0, 0, 1, 1] : List Int))).bind fun t433 => (if t433 = true then ((stuff_Add.f (([1, 1, 1, 1, 1, 1, 1, 1, 1] : List Int))).bind fun t437 => ((magnetolaw05_ints.f k t437 (([1, 1, 1, 1, 1, 0, 1, 1, 1, 1] : List Int))).bind fun t443 => (if t443 = true then ((stuff_Count.f (([1, 1, 1, 1, 1, 0, 0, 0, 0] : List Int))).bind fun t447 => (if t447 = 2 then (if bt406.1 = 2 then (if bt406.2 = 0 then (if bt411.2.1 = 5 then (if bt411.2.2 = 17 then (if bt419.2.1 = 5 then (some (bt419.2.2 == 13)) else (none)) else (none)) else (none)) else (none)) else (none)) else (none))) else (none)))) else (none))))))
theorem magnetolaw05_awake.mono : ∀ k, LeO (magnetolaw05_awake.f k ) (magnetolaw05_awake.f (k + 1) ) := by
 intro  k
 unfold magnetolaw05_awake.f
 repeat' first
   | (with_reducible exact magnetolaw05_ints.mono _ _ _)
   | (with_reducible exact stuff_Take.mono _ _)
   | (with_reducible exact LeO.refl _)
   | (with_reducible exact LeO.none _)
   | (with_reducible refine LeO.ite ?_ ?_)
   | (with_reducible refine LeO.bind ?_ (fun _ => ?_))
   | exact magnetolaw05_ints.mono _ _ _
   | exact stuff_Take.mono _ _
   | exact LeO.none _
   | refine LeO.ite ?_ ?_
   | refine LeO.bind ?_ (fun _ => ?_)
set_option maxHeartbeats 8000000 in
set_option maxRecDepth 100000 in
theorem magnetolaw05_awake.calls (k : Nat)  (r : Bool) (w : World) (h : magnetolaw05_awake.f k  = some r) :
  Calls Try.prog 40 #[] w fun e w' => e = .returned (.bool r) ∧ Below w.heap.size w w' := by
 have HB := Aside0.mk (Below.refl w.heap.size w)
 have H : ((stuff_Most.f 9).bind fun bt406 => ((stuff_Take.f k (([0, 0, 0, 0, 0, 0] : List Int))).bind fun bt411 => ((stuff_Take.f k (([0, 0, 0, 0, 0] : List Int))).bind fun bt419 => ((stuff_Add.f (([0, 0, 0, 0, 0, 1] : List Int))).bind fun t427 => ((magnetolaw05_ints.f k t427 (([0, 0, 0, 0, 0, 1, 1] : List Int))).bind fun t433 => (if t433 = true then ((stuff_Add.f (([1, 1, 1, 1, 1, 1, 1, 1, 1] : List Int))).bind fun t437 => ((magnetolaw05_ints.f k t437 (([1, 1, 1, 1, 1, 0, 1, 1, 1, 1] : List Int))).bind fun t443 => (if t443 = true then ((stuff_Count.f (([1, 1, 1, 1, 1, 0, 0, 0, 0] : List Int))).bind fun t447 => (if t447 = 2 then (if bt406.1 = 2 then (if bt406.2 = 0 then (if bt411.2.1 = 5 then (if bt411.2.2 = 17 then (if bt419.2.1 = 5 then (some (bt419.2.2 == 13)) else (none)) else (none)) else (none)) else (none)) else (none)) else (none))) else (none)))) else (none))))))) = some r := h
 clear h
 replace H := Option.bind_eq_some_iff.mp H
 obtain ⟨⟨t406, t407⟩, A10, H⟩ := H
 replace H : ((stuff_Take.f k (([0, 0, 0, 0, 0, 0] : List Int))).bind fun bt411 => ((stuff_Take.f k (([0, 0, 0, 0, 0] : List Int))).bind fun bt419 => ((stuff_Add.f (([0, 0, 0, 0, 0, 1] : List Int))).bind fun t427 => ((magnetolaw05_ints.f k t427 (([0, 0, 0, 0, 0, 1, 1] : List Int))).bind fun t433 => (if t433 = true then ((stuff_Add.f (([1, 1, 1, 1, 1, 1, 1, 1, 1] : List Int))).bind fun t437 => ((magnetolaw05_ints.f k t437 (([1, 1, 1, 1, 1, 0, 1, 1, 1, 1] : List Int))).bind fun t443 => (if t443 = true then ((stuff_Count.f (([1, 1, 1, 1, 1, 0, 0, 0, 0] : List Int))).bind fun t447 => (if t447 = 2 then (if t406 = 2 then (if t407 = 0 then (if bt411.2.1 = 5 then (if bt411.2.2 = 17 then (if bt419.2.1 = 5 then (some (bt419.2.2 == 13)) else (none)) else (none)) else (none)) else (none)) else (none)) else (none))) else (none)))) else (none)))))) = some r := H
 have A1 := Aside0.mk A10
 clear A10
 obtain ⟨y408, hy408⟩ : ∃ y_ : List Int, y_ = (([0, 0, 0, 0, 0, 0] : List Int)) := ⟨_, rfl⟩
 replace H : ((stuff_Take.f k y408).bind fun bt411 => ((stuff_Take.f k (([0, 0, 0, 0, 0] : List Int))).bind fun bt419 => ((stuff_Add.f (([0, 0, 0, 0, 0, 1] : List Int))).bind fun t427 => ((magnetolaw05_ints.f k t427 (([0, 0, 0, 0, 0, 1, 1] : List Int))).bind fun t433 => (if t433 = true then ((stuff_Add.f (([1, 1, 1, 1, 1, 1, 1, 1, 1] : List Int))).bind fun t437 => ((magnetolaw05_ints.f k t437 (([1, 1, 1, 1, 1, 0, 1, 1, 1, 1] : List Int))).bind fun t443 => (if t443 = true then ((stuff_Count.f (([1, 1, 1, 1, 1, 0, 0, 0, 0] : List Int))).bind fun t447 => (if t447 = 2 then (if t406 = 2 then (if t407 = 0 then (if bt411.2.1 = 5 then (if bt411.2.2 = 17 then (if bt419.2.1 = 5 then (some (bt419.2.2 == 13)) else (none)) else (none)) else (none)) else (none)) else (none)) else (none))) else (none)))) else (none)))))) = some r := by first | (rw [hy408]; with_reducible exact H) | (have H2_ := (Option.bind_some _ _).symm.trans H; rw [hy408]; with_reducible exact H2_) | (have H2_ := (Option.bind_some _ _).symm.trans H; with_reducible exact H2_) | with_reducible exact H | (rw [hy408]; exact H) | exact H
 have Ny408 := Aside0.mk hy408
 clear hy408
 replace H := Option.bind_eq_some_iff.mp H
 obtain ⟨⟨t411, t412, t413⟩, A20, H⟩ := H
 replace H : ((stuff_Take.f k (([0, 0, 0, 0, 0] : List Int))).bind fun bt419 => ((stuff_Add.f (([0, 0, 0, 0, 0, 1] : List Int))).bind fun t427 => ((magnetolaw05_ints.f k t427 (([0, 0, 0, 0, 0, 1, 1] : List Int))).bind fun t433 => (if t433 = true then ((stuff_Add.f (([1, 1, 1, 1, 1, 1, 1, 1, 1] : List Int))).bind fun t437 => ((magnetolaw05_ints.f k t437 (([1, 1, 1, 1, 1, 0, 1, 1, 1, 1] : List Int))).bind fun t443 => (if t443 = true then ((stuff_Count.f (([1, 1, 1, 1, 1, 0, 0, 0, 0] : List Int))).bind fun t447 => (if t447 = 2 then (if t406 = 2 then (if t407 = 0 then (if t412 = 5 then (if t413 = 17 then (if bt419.2.1 = 5 then (some (bt419.2.2 == 13)) else (none)) else (none)) else (none)) else (none)) else (none)) else (none))) else (none)))) else (none))))) = some r := H
 have A2 := Aside0.mk A20
 clear A20
 obtain ⟨y416, hy416⟩ : ∃ y_ : List Int, y_ = (([0, 0, 0, 0, 0] : List Int)) := ⟨_, rfl⟩
 replace H : ((stuff_Take.f k y416).bind fun bt419 => ((stuff_Add.f (([0, 0, 0, 0, 0, 1] : List Int))).bind fun t427 => ((magnetolaw05_ints.f k t427 (([0, 0, 0, 0, 0, 1, 1] : List Int))).bind fun t433 => (if t433 = true then ((stuff_Add.f (([1, 1, 1, 1, 1, 1, 1, 1, 1] : List Int))).bind fun t437 => ((magnetolaw05_ints.f k t437 (([1, 1, 1, 1, 1, 0, 1, 1, 1, 1] : List Int))).bind fun t443 => (if t443 = true then ((stuff_Count.f (([1, 1, 1, 1, 1, 0, 0, 0, 0] : List Int))).bind fun t447 => (if t447 = 2 then (if t406 = 2 then (if t407 = 0 then (if t412 = 5 then (if t413 = 17 then (if bt419.2.1 = 5 then (some (bt419.2.2 == 13)) else (none)) else (none)) else (none)) else (none)) else (none)) else (none))) else (none)))) else (none))))) = some r := by first | (rw [hy416]; with_reducible exact H) | (have H2_ := (Option.bind_some _ _).symm.trans H; rw [hy416]; with_reducible exact H2_) | (have H2_ := (Option.bind_some _ _).symm.trans H; with_reducible exact H2_) | with_reducible exact H | (rw [hy416]; exact H) | exact H
 have Ny416 := Aside0.mk hy416
 clear hy416
 replace H := Option.bind_eq_some_iff.mp H
 obtain ⟨⟨t419, t420, t421⟩, A30, H⟩ := H
 replace H : ((stuff_Add.f (([0, 0, 0, 0, 0, 1] : List Int))).bind fun t427 => ((magnetolaw05_ints.f k t427 (([0, 0, 0, 0, 0, 1, 1] : List Int))).bind fun t433 => (if t433 = true then ((stuff_Add.f (([1, 1, 1, 1, 1, 1, 1, 1, 1] : List Int))).bind fun t437 => ((magnetolaw05_ints.f k t437 (([1, 1, 1, 1, 1, 0, 1, 1, 1, 1] : List Int))).bind fun t443 => (if t443 = true then ((stuff_Count.f (([1, 1, 1, 1, 1, 0, 0, 0, 0] : List Int))).bind fun t447 => (if t447 = 2 then (if t406 = 2 then (if t407 = 0 then (if t412 = 5 then (if t413 = 17 then (if t420 = 5 then (some (t421 == 13)) else (none)) else (none)) else (none)) else (none)) else (none)) else (none))) else (none)))) else (none)))) = some r := H
 have A3 := Aside0.mk A30
 clear A30
 obtain ⟨y424, hy424⟩ : ∃ y_ : List Int, y_ = (([0, 0, 0, 0, 0, 1] : List Int)) := ⟨_, rfl⟩
 replace H : ((stuff_Add.f y424).bind fun t427 => ((magnetolaw05_ints.f k t427 (([0, 0, 0, 0, 0, 1, 1] : List Int))).bind fun t433 => (if t433 = true then ((stuff_Add.f (([1, 1, 1, 1, 1, 1, 1, 1, 1] : List Int))).bind fun t437 => ((magnetolaw05_ints.f k t437 (([1, 1, 1, 1, 1, 0, 1, 1, 1, 1] : List Int))).bind fun t443 => (if t443 = true then ((stuff_Count.f (([1, 1, 1, 1, 1, 0, 0, 0, 0] : List Int))).bind fun t447 => (if t447 = 2 then (if t406 = 2 then (if t407 = 0 then (if t412 = 5 then (if t413 = 17 then (if t420 = 5 then (some (t421 == 13)) else (none)) else (none)) else (none)) else (none)) else (none)) else (none))) else (none)))) else (none)))) = some r := by first | (rw [hy424]; with_reducible exact H) | (have H2_ := (Option.bind_some _ _).symm.trans H; rw [hy424]; with_reducible exact H2_) | (have H2_ := (Option.bind_some _ _).symm.trans H; with_reducible exact H2_) | with_reducible exact H | (rw [hy424]; exact H) | exact H
 have Ny424 := Aside0.mk hy424
 clear hy424
 replace H := Option.bind_eq_some_iff.mp H
 obtain ⟨t427, A40, H⟩ := H
 replace H : ((magnetolaw05_ints.f k t427 (([0, 0, 0, 0, 0, 1, 1] : List Int))).bind fun t433 => (if t433 = true then ((stuff_Add.f (([1, 1, 1, 1, 1, 1, 1, 1, 1] : List Int))).bind fun t437 => ((magnetolaw05_ints.f k t437 (([1, 1, 1, 1, 1, 0, 1, 1, 1, 1] : List Int))).bind fun t443 => (if t443 = true then ((stuff_Count.f (([1, 1, 1, 1, 1, 0, 0, 0, 0] : List Int))).bind fun t447 => (if t447 = 2 then (if t406 = 2 then (if t407 = 0 then (if t412 = 5 then (if t413 = 17 then (if t420 = 5 then (some (t421 == 13)) else (none)) else (none)) else (none)) else (none)) else (none)) else (none))) else (none)))) else (none))) = some r := H
 have A4 := Aside0.mk A40
 clear A40
 obtain ⟨y430, hy430⟩ : ∃ y_ : List Int, y_ = (([0, 0, 0, 0, 0, 1, 1] : List Int)) := ⟨_, rfl⟩
 replace H : ((magnetolaw05_ints.f k t427 y430).bind fun t433 => (if t433 = true then ((stuff_Add.f (([1, 1, 1, 1, 1, 1, 1, 1, 1] : List Int))).bind fun t437 => ((magnetolaw05_ints.f k t437 (([1, 1, 1, 1, 1, 0, 1, 1, 1, 1] : List Int))).bind fun t443 => (if t443 = true then ((stuff_Count.f (([1, 1, 1, 1, 1, 0, 0, 0, 0] : List Int))).bind fun t447 => (if t447 = 2 then (if t406 = 2 then (if t407 = 0 then (if t412 = 5 then (if t413 = 17 then (if t420 = 5 then (some (t421 == 13)) else (none)) else (none)) else (none)) else (none)) else (none)) else (none))) else (none)))) else (none))) = some r := by first | (rw [hy430]; with_reducible exact H) | (have H2_ := (Option.bind_some _ _).symm.trans H; rw [hy430]; with_reducible exact H2_) | (have H2_ := (Option.bind_some _ _).symm.trans H; with_reducible exact H2_) | with_reducible exact H | (rw [hy430]; exact H) | exact H
 have Ny430 := Aside0.mk hy430
 clear hy430
 replace H := Option.bind_eq_some_iff.mp H
 obtain ⟨t433, A50, H⟩ := H
 replace H : (if t433 = true then ((stuff_Add.f (([1, 1, 1, 1, 1, 1, 1, 1, 1] : List Int))).bind fun t437 => ((magnetolaw05_ints.f k t437 (([1, 1, 1, 1, 1, 0, 1, 1, 1, 1] : List Int))).bind fun t443 => (if t443 = true then ((stuff_Count.f (([1, 1, 1, 1, 1, 0, 0, 0, 0] : List Int))).bind fun t447 => (if t447 = 2 then (if t406 = 2 then (if t407 = 0 then (if t412 = 5 then (if t413 = 17 then (if t420 = 5 then (some (t421 == 13)) else (none)) else (none)) else (none)) else (none)) else (none)) else (none))) else (none)))) else (none)) = some r := H
 have A5 := Aside0.mk A50
 clear A50
 by_cases c6 : t433 = true
 ·
  subst c6
  have H1 : ((stuff_Add.f (([1, 1, 1, 1, 1, 1, 1, 1, 1] : List Int))).bind fun t437 => ((magnetolaw05_ints.f k t437 (([1, 1, 1, 1, 1, 0, 1, 1, 1, 1] : List Int))).bind fun t443 => (if t443 = true then ((stuff_Count.f (([1, 1, 1, 1, 1, 0, 0, 0, 0] : List Int))).bind fun t447 => (if t447 = 2 then (if t406 = 2 then (if t407 = 0 then (if t412 = 5 then (if t413 = 17 then (if t420 = 5 then (some (t421 == 13)) else (none)) else (none)) else (none)) else (none)) else (none)) else (none))) else (none)))) = some r := by rw [if_pos rfl] at H; exact H
  clear H
  have H := H1
  clear H1
  obtain ⟨y434, hy434⟩ : ∃ y_ : List Int, y_ = (([1, 1, 1, 1, 1, 1, 1, 1, 1] : List Int)) := ⟨_, rfl⟩
  replace H : ((stuff_Add.f y434).bind fun t437 => ((magnetolaw05_ints.f k t437 (([1, 1, 1, 1, 1, 0, 1, 1, 1, 1] : List Int))).bind fun t443 => (if t443 = true then ((stuff_Count.f (([1, 1, 1, 1, 1, 0, 0, 0, 0] : List Int))).bind fun t447 => (if t447 = 2 then (if t406 = 2 then (if t407 = 0 then (if t412 = 5 then (if t413 = 17 then (if t420 = 5 then (some (t421 == 13)) else (none)) else (none)) else (none)) else (none)) else (none)) else (none))) else (none)))) = some r := by first | (rw [hy434]; with_reducible exact H) | (have H2_ := (Option.bind_some _ _).symm.trans H; rw [hy434]; with_reducible exact H2_) | (have H2_ := (Option.bind_some _ _).symm.trans H; with_reducible exact H2_) | with_reducible exact H | (rw [hy434]; exact H) | exact H
  have Ny434 := Aside0.mk hy434
  clear hy434
  replace H := Option.bind_eq_some_iff.mp H
  obtain ⟨t437, A70, H⟩ := H
  replace H : ((magnetolaw05_ints.f k t437 (([1, 1, 1, 1, 1, 0, 1, 1, 1, 1] : List Int))).bind fun t443 => (if t443 = true then ((stuff_Count.f (([1, 1, 1, 1, 1, 0, 0, 0, 0] : List Int))).bind fun t447 => (if t447 = 2 then (if t406 = 2 then (if t407 = 0 then (if t412 = 5 then (if t413 = 17 then (if t420 = 5 then (some (t421 == 13)) else (none)) else (none)) else (none)) else (none)) else (none)) else (none))) else (none))) = some r := H
  have A7 := Aside0.mk A70
  clear A70
  obtain ⟨y440, hy440⟩ : ∃ y_ : List Int, y_ = (([1, 1, 1, 1, 1, 0, 1, 1, 1, 1] : List Int)) := ⟨_, rfl⟩
  replace H : ((magnetolaw05_ints.f k t437 y440).bind fun t443 => (if t443 = true then ((stuff_Count.f (([1, 1, 1, 1, 1, 0, 0, 0, 0] : List Int))).bind fun t447 => (if t447 = 2 then (if t406 = 2 then (if t407 = 0 then (if t412 = 5 then (if t413 = 17 then (if t420 = 5 then (some (t421 == 13)) else (none)) else (none)) else (none)) else (none)) else (none)) else (none))) else (none))) = some r := by first | (rw [hy440]; with_reducible exact H) | (have H2_ := (Option.bind_some _ _).symm.trans H; rw [hy440]; with_reducible exact H2_) | (have H2_ := (Option.bind_some _ _).symm.trans H; with_reducible exact H2_) | with_reducible exact H | (rw [hy440]; exact H) | exact H
  have Ny440 := Aside0.mk hy440
  clear hy440
  replace H := Option.bind_eq_some_iff.mp H
  obtain ⟨t443, A80, H⟩ := H
  replace H : (if t443 = true then ((stuff_Count.f (([1, 1, 1, 1, 1, 0, 0, 0, 0] : List Int))).bind fun t447 => (if t447 = 2 then (if t406 = 2 then (if t407 = 0 then (if t412 = 5 then (if t413 = 17 then (if t420 = 5 then (some (t421 == 13)) else (none)) else (none)) else (none)) else (none)) else (none)) else (none))) else (none)) = some r := H
  have A8 := Aside0.mk A80
  clear A80
  by_cases c9 : t443 = true
  ·
   subst c9
   have H1 : ((stuff_Count.f (([1, 1, 1, 1, 1, 0, 0, 0, 0] : List Int))).bind fun t447 => (if t447 = 2 then (if t406 = 2 then (if t407 = 0 then (if t412 = 5 then (if t413 = 17 then (if t420 = 5 then (some (t421 == 13)) else (none)) else (none)) else (none)) else (none)) else (none)) else (none))) = some r := by rw [if_pos rfl] at H; exact H
   clear H
   have H := H1
   clear H1
   obtain ⟨y444, hy444⟩ : ∃ y_ : List Int, y_ = (([1, 1, 1, 1, 1, 0, 0, 0, 0] : List Int)) := ⟨_, rfl⟩
   replace H : ((stuff_Count.f y444).bind fun t447 => (if t447 = 2 then (if t406 = 2 then (if t407 = 0 then (if t412 = 5 then (if t413 = 17 then (if t420 = 5 then (some (t421 == 13)) else (none)) else (none)) else (none)) else (none)) else (none)) else (none))) = some r := by first | (rw [hy444]; with_reducible exact H) | (have H2_ := (Option.bind_some _ _).symm.trans H; rw [hy444]; with_reducible exact H2_) | (have H2_ := (Option.bind_some _ _).symm.trans H; with_reducible exact H2_) | with_reducible exact H | (rw [hy444]; exact H) | exact H
   have Ny444 := Aside0.mk hy444
   clear hy444
   replace H := Option.bind_eq_some_iff.mp H
   obtain ⟨t447, A100, H⟩ := H
   replace H : (if t447 = 2 then (if t406 = 2 then (if t407 = 0 then (if t412 = 5 then (if t413 = 17 then (if t420 = 5 then (some (t421 == 13)) else (none)) else (none)) else (none)) else (none)) else (none)) else (none)) = some r := H
   have A10 := Aside0.mk A100
   clear A100
   by_cases c11 : t447 = 2
   ·
    rw [if_pos c11] at H
    have c11b0 : (t447 == 2) = true := beq_iff_eq.mpr c11
    have c11b1 : (t447 != 2) = false := bne_eq_false_iff_eq.mpr c11
    clear c11
    by_cases c12 : t406 = 2
    ·
     rw [if_pos c12] at H
     have c12b0 : (t406 == 2) = true := beq_iff_eq.mpr c12
     have c12b1 : (t406 != 2) = false := bne_eq_false_iff_eq.mpr c12
     clear c12
     by_cases c13 : t407 = 0
     ·
      rw [if_pos c13] at H
      have c13b0 : (t407 == 0) = true := beq_iff_eq.mpr c13
      have c13b1 : (t407 != 0) = false := bne_eq_false_iff_eq.mpr c13
      clear c13
      by_cases c14 : t412 = 5
      ·
       rw [if_pos c14] at H
       have c14b0 : (t412 == 5) = true := beq_iff_eq.mpr c14
       have c14b1 : (t412 != 5) = false := bne_eq_false_iff_eq.mpr c14
       clear c14
       by_cases c15 : t413 = 17
       ·
        rw [if_pos c15] at H
        have c15b0 : (t413 == 17) = true := beq_iff_eq.mpr c15
        have c15b1 : (t413 != 17) = false := bne_eq_false_iff_eq.mpr c15
        clear c15
        by_cases c16 : t420 = 5
        ·
         rw [if_pos c16] at H
         have c16b0 : (t420 == 5) = true := beq_iff_eq.mpr c16
         have c16b1 : (t420 != 5) = false := bne_eq_false_iff_eq.mpr c16
         clear c16
         obtain rfl := Option.some.inj H
         go_enter Try.func40, Try.ntmps40
         go_wp2_with (first | ((with_reducible refine gate_callee (f := 45) rfl ?_); refine goesL_ (some 10) rfl rfl Try.func45 (by kernel_rfl) rfl #[.int .i64 9] rfl (by (try simp only [List.map_toArray, List.map_cons, List.map_nil]); first | done | rfl | (simp only [List.length_drop, List.length_take]; rfl)) ?_; (with_reducible refine (stuff_Most.calls 9 t406 t407 _ A1.out).mono ?_); rintro e w' ⟨rfl, ⟨nd, rfl⟩⟩; refine ⟨_, rfl, ?_⟩) | ((with_reducible refine gate_dst (N := 14) rfl ?_); (try (refine gate_guard (by rfl) ?_; dsimp only)); refine Kd.R_lit (Kd.int .i64) _ 3 ?hg (N := 14) ?hd (xs := ([0, 0, 0, 0, 0, 0] : List Int)) (inner := [.int .i64 0, .int .i64 0, .int .i64 0, .int .i64 0, .int .i64 0, .int .i64 0]) (ok := fun _ => True) (okp := fun _ => True) ?hr ?hp (fun _ hk => hk) trivial (Below.refl _ _) (Nat.le_refl _) (by simp) ?_; (case hd => rfl); (case hg => rfl); (case hr => first | (go_simp; done) | (go_simp; rfl)); (case hp => exact (Reps.one (show Kd.M (Kd.int .i64) _ _ _ 0 [.int .i64 0] from rfl) (Reps.one (show Kd.M (Kd.int .i64) _ _ _ 0 [.int .i64 0] from rfl) (Reps.one (show Kd.M (Kd.int .i64) _ _ _ 0 [.int .i64 0] from rfl) (Reps.one (show Kd.M (Kd.int .i64) _ _ _ 0 [.int .i64 0] from rfl) (Reps.one (show Kd.M (Kd.int .i64) _ _ _ 0 [.int .i64 0] from rfl) (Reps.one (show Kd.M (Kd.int .i64) _ _ _ 0 [.int .i64 0] from rfl) (Reps.none _ _)))))))); intro v409 w17 ho18 hb hg_ hnew_; clear hg_ hnew_; (first | rw [← Ny408.out] at ho18 | (simp only [Int.reduceToNat] at ho18; rw [← Ny408.out] at ho18)); have n0_ := Aside0.mk (Kd.R_lower ho18 (below_size (by repeat (first | (with_reducible first | exact HB.out | apply below_alloc | apply pw_below_drewN | apply below_drew1) | exact HB.out)))); have n1_ := Aside0.mk (below_step (by repeat (first | (with_reducible first | exact HB.out | apply below_alloc | apply pw_below_drewN | apply below_drew1) | exact HB.out)) hb); clear HB; have HO410 := n0_; have HB := n1_; clear n0_ n1_; clear hb ho18; obtain ⟨Ao19, co19, eo19⟩ := Kd.R_slice HO410.out; subst eo19) | ((with_reducible refine gate_callee (f := 46) rfl ?_); refine goesL_ (some 15) rfl rfl Try.func46 (by kernel_rfl) rfl #[.slice Ao19 y408.length co19] rfl (by (try simp only [List.map_toArray, List.map_cons, List.map_nil]); first | done | rfl | (simp only [List.length_drop, List.length_take]; rfl)) ?_; (with_reducible refine (stuff_Take.calls k _ _ y408 t411 t412 t413 _ ?side1 ?side2 A2.out).mono ?_); (case side1 => repeat (first | exact (Kd.R_reads' HO410.out).2.2 | (with_reducible refine Kd.C_alloc ?_ _) | (with_reducible refine Kd.C_drewN ?_ _) | (with_reducible refine Kd.C_drew ?_))); (case side2 => exact (Kd.R_reads' HO410.out).2.1); rintro e w20 ⟨v414, rfl, ho0, hb⟩; refine ⟨_, rfl, ?_⟩; have n0_ := Aside0.mk (Kd.R_elder' (by (with_reducible repeat (first | apply Kd.R_alloc | apply Kd.R_drewN | apply Kd.R_drew)); exact HO410.out) (Kd.R_base ho0) hb); have n1_ := Aside0.mk (Kd.R_lower (Kd.R_new' ho0 (Kd.R_lt (by (with_reducible repeat (first | apply Kd.R_alloc | apply Kd.R_drewN | apply Kd.R_drew)); exact HO410.out))) (below_size (by repeat (first | (with_reducible first | exact HB.out | apply below_alloc | apply pw_below_drewN | apply below_drew1) | exact HB.out)))); have n2_ := Aside0.mk (below_step (by repeat (first | (with_reducible first | exact HB.out | apply below_alloc | apply pw_below_drewN | apply below_drew1) | exact HB.out)) hb); clear HO410; clear HB; have HO410 := n0_; have HO415 := n1_; have HB := n2_; clear n0_ n1_ n2_; (try clear hb); (try clear hb2); (try clear hk); (try clear hi); (try clear ho0)) | ((with_reducible refine gate_dst (N := 20) rfl ?_); (try (refine gate_guard (by rfl) ?_; dsimp only)); refine Kd.R_lit (Kd.int .i64) _ 3 ?hg (N := 20) ?hd (xs := ([0, 0, 0, 0, 0] : List Int)) (inner := [.int .i64 0, .int .i64 0, .int .i64 0, .int .i64 0, .int .i64 0]) (ok := fun _ => True) (okp := fun _ => True) ?hr ?hp (fun _ hk => hk) trivial (Below.refl _ _) (Nat.le_refl _) (by simp) ?_; (case hd => rfl); (case hg => rfl); (case hr => first | (go_simp; done) | (go_simp; rfl)); (case hp => exact (Reps.one (show Kd.M (Kd.int .i64) _ _ _ 0 [.int .i64 0] from rfl) (Reps.one (show Kd.M (Kd.int .i64) _ _ _ 0 [.int .i64 0] from rfl) (Reps.one (show Kd.M (Kd.int .i64) _ _ _ 0 [.int .i64 0] from rfl) (Reps.one (show Kd.M (Kd.int .i64) _ _ _ 0 [.int .i64 0] from rfl) (Reps.one (show Kd.M (Kd.int .i64) _ _ _ 0 [.int .i64 0] from rfl) (Reps.none _ _))))))); intro v417 w21 ho22 hb hg_ hnew_; clear hg_ hnew_; (first | rw [← Ny416.out] at ho22 | (simp only [Int.reduceToNat] at ho22; rw [← Ny416.out] at ho22)); have n0_ := Aside0.mk (Kd.R_elder' (by (with_reducible repeat (first | apply Kd.R_alloc | apply Kd.R_drewN | apply Kd.R_drew)); exact HO410.out) (Kd.R_base ho22) hb); have n1_ := Aside0.mk (Kd.R_elder' (by (with_reducible repeat (first | apply Kd.R_alloc | apply Kd.R_drewN | apply Kd.R_drew)); exact HO415.out) (Kd.R_base ho22) hb); have n2_ := Aside0.mk (Kd.R_lower (Kd.R_new' (Kd.R_new' ho22 (Kd.R_lt (by (with_reducible repeat (first | apply Kd.R_alloc | apply Kd.R_drewN | apply Kd.R_drew)); exact HO410.out))) (Kd.R_lt (by (with_reducible repeat (first | apply Kd.R_alloc | apply Kd.R_drewN | apply Kd.R_drew)); exact HO415.out))) (below_size (by repeat (first | (with_reducible first | exact HB.out | apply below_alloc | apply pw_below_drewN | apply below_drew1) | exact HB.out)))); have n3_ := Aside0.mk (below_step (by repeat (first | (with_reducible first | exact HB.out | apply below_alloc | apply pw_below_drewN | apply below_drew1) | exact HB.out)) hb); clear HO410; clear HO415; clear HB; have HO410 := n0_; have HO415 := n1_; have HO418 := n2_; have HB := n3_; clear n0_ n1_ n2_ n3_; clear hb ho22; obtain ⟨Ao23, co23, eo23⟩ := Kd.R_slice HO418.out; subst eo23) | ((with_reducible refine gate_callee (f := 46) rfl ?_); refine goesL_ (some 21) rfl rfl Try.func46 (by kernel_rfl) rfl #[.slice Ao23 y416.length co23] rfl (by (try simp only [List.map_toArray, List.map_cons, List.map_nil]); first | done | rfl | (simp only [List.length_drop, List.length_take]; rfl)) ?_; (with_reducible refine (stuff_Take.calls k _ _ y416 t419 t420 t421 _ ?side1 ?side2 A3.out).mono ?_); (case side1 => repeat (first | exact (Kd.R_reads' HO418.out).2.2 | (with_reducible refine Kd.C_alloc ?_ _) | (with_reducible refine Kd.C_drewN ?_ _) | (with_reducible refine Kd.C_drew ?_))); (case side2 => exact (Kd.R_reads' HO418.out).2.1); rintro e w24 ⟨v422, rfl, ho0, hb⟩; refine ⟨_, rfl, ?_⟩; have n0_ := Aside0.mk (Kd.R_elder' (by (with_reducible repeat (first | apply Kd.R_alloc | apply Kd.R_drewN | apply Kd.R_drew)); exact HO410.out) (Kd.R_base ho0) hb); have n1_ := Aside0.mk (Kd.R_elder' (by (with_reducible repeat (first | apply Kd.R_alloc | apply Kd.R_drewN | apply Kd.R_drew)); exact HO415.out) (Kd.R_base ho0) hb); have n2_ := Aside0.mk (Kd.R_elder' (by (with_reducible repeat (first | apply Kd.R_alloc | apply Kd.R_drewN | apply Kd.R_drew)); exact HO418.out) (Kd.R_base ho0) hb); have n3_ := Aside0.mk (Kd.R_lower (Kd.R_new' (Kd.R_new' (Kd.R_new' ho0 (Kd.R_lt (by (with_reducible repeat (first | apply Kd.R_alloc | apply Kd.R_drewN | apply Kd.R_drew)); exact HO410.out))) (Kd.R_lt (by (with_reducible repeat (first | apply Kd.R_alloc | apply Kd.R_drewN | apply Kd.R_drew)); exact HO415.out))) (Kd.R_lt (by (with_reducible repeat (first | apply Kd.R_alloc | apply Kd.R_drewN | apply Kd.R_drew)); exact HO418.out))) (below_size (by repeat (first | (with_reducible first | exact HB.out | apply below_alloc | apply pw_below_drewN | apply below_drew1) | exact HB.out)))); have n4_ := Aside0.mk (below_step (by repeat (first | (with_reducible first | exact HB.out | apply below_alloc | apply pw_below_drewN | apply below_drew1) | exact HB.out)) hb); clear HO410; clear HO415; clear HO418; clear HB; have HO410 := n0_; have HO415 := n1_; have HO418 := n2_; have HO423 := n3_; have HB := n4_; clear n0_ n1_ n2_ n3_ n4_; (try clear hb); (try clear hb2); (try clear hk); (try clear hi); (try clear ho0)) | ((with_reducible refine gate_dst (N := 25) rfl ?_); (try (refine gate_guard (by rfl) ?_; dsimp only)); refine Kd.R_lit (Kd.int .i64) _ 3 ?hg (N := 25) ?hd (xs := ([0, 0, 0, 0, 0, 1] : List Int)) (inner := [.int .i64 0, .int .i64 0, .int .i64 0, .int .i64 0, .int .i64 0, .int .i64 1]) (ok := fun _ => True) (okp := fun _ => True) ?hr ?hp (fun _ hk => hk) trivial (Below.refl _ _) (Nat.le_refl _) (by simp) ?_; (case hd => rfl); (case hg => rfl); (case hr => first | (go_simp; done) | (go_simp; rfl)); (case hp => exact (Reps.one (show Kd.M (Kd.int .i64) _ _ _ 0 [.int .i64 0] from rfl) (Reps.one (show Kd.M (Kd.int .i64) _ _ _ 0 [.int .i64 0] from rfl) (Reps.one (show Kd.M (Kd.int .i64) _ _ _ 0 [.int .i64 0] from rfl) (Reps.one (show Kd.M (Kd.int .i64) _ _ _ 0 [.int .i64 0] from rfl) (Reps.one (show Kd.M (Kd.int .i64) _ _ _ 0 [.int .i64 0] from rfl) (Reps.one (show Kd.M (Kd.int .i64) _ _ _ 1 [.int .i64 1] from rfl) (Reps.none _ _)))))))); intro v425 w25 ho26 hb hg_ hnew_; clear hg_ hnew_; (first | rw [← Ny424.out] at ho26 | (simp only [Int.reduceToNat] at ho26; rw [← Ny424.out] at ho26)); have n0_ := Aside0.mk (Kd.R_elder' (by (with_reducible repeat (first | apply Kd.R_alloc | apply Kd.R_drewN | apply Kd.R_drew)); exact HO410.out) (Kd.R_base ho26) hb); have n1_ := Aside0.mk (Kd.R_elder' (by (with_reducible repeat (first | apply Kd.R_alloc | apply Kd.R_drewN | apply Kd.R_drew)); exact HO415.out) (Kd.R_base ho26) hb); have n2_ := Aside0.mk (Kd.R_elder' (by (with_reducible repeat (first | apply Kd.R_alloc | apply Kd.R_drewN | apply Kd.R_drew)); exact HO418.out) (Kd.R_base ho26) hb); have n3_ := Aside0.mk (Kd.R_elder' (by (with_reducible repeat (first | apply Kd.R_alloc | apply Kd.R_drewN | apply Kd.R_drew)); exact HO423.out) (Kd.R_base ho26) hb); have n4_ := Aside0.mk (Kd.R_lower (Kd.R_new' (Kd.R_new' (Kd.R_new' (Kd.R_new' ho26 (Kd.R_lt (by (with_reducible repeat (first | apply Kd.R_alloc | apply Kd.R_drewN | apply Kd.R_drew)); exact HO410.out))) (Kd.R_lt (by (with_reducible repeat (first | apply Kd.R_alloc | apply Kd.R_drewN | apply Kd.R_drew)); exact HO415.out))) (Kd.R_lt (by (with_reducible repeat (first | apply Kd.R_alloc | apply Kd.R_drewN | apply Kd.R_drew)); exact HO418.out))) (Kd.R_lt (by (with_reducible repeat (first | apply Kd.R_alloc | apply Kd.R_drewN | apply Kd.R_drew)); exact HO423.out))) (below_size (by repeat (first | (with_reducible first | exact HB.out | apply below_alloc | apply pw_below_drewN | apply below_drew1) | exact HB.out)))); have n5_ := Aside0.mk (below_step (by repeat (first | (with_reducible first | exact HB.out | apply below_alloc | apply pw_below_drewN | apply below_drew1) | exact HB.out)) hb); clear HO410; clear HO415; clear HO418; clear HO423; clear HB; have HO410 := n0_; have HO415 := n1_; have HO418 := n2_; have HO423 := n3_; have HO426 := n4_; have HB := n5_; clear n0_ n1_ n2_ n3_ n4_ n5_; clear hb ho26; obtain ⟨Ao27, co27, eo27⟩ := Kd.R_slice HO426.out; subst eo27) | ((with_reducible refine gate_callee (f := 43) rfl ?_); refine goesL_ (some 26) rfl rfl Try.func43 (by kernel_rfl) rfl #[.slice Ao27 y424.length co27] rfl (by (try simp only [List.map_toArray, List.map_cons, List.map_nil]); first | done | rfl | (simp only [List.length_drop, List.length_take]; rfl)) ?_; (with_reducible refine (stuff_Add.calls _ _ y424 t427 _ ?side1 ?side2 A4.out).mono ?_); (case side1 => repeat (first | exact (Kd.R_reads' HO426.out).2.2 | (with_reducible refine Kd.C_alloc ?_ _) | (with_reducible refine Kd.C_drewN ?_ _) | (with_reducible refine Kd.C_drew ?_))); (case side2 => exact (Kd.R_reads' HO426.out).2.1); rintro e w28 ⟨v428, rfl, ho0, hb⟩; refine ⟨_, rfl, ?_⟩; have n0_ := Aside0.mk (Kd.R_elder' (by (with_reducible repeat (first | apply Kd.R_alloc | apply Kd.R_drewN | apply Kd.R_drew)); exact HO410.out) (Kd.R_base ho0) hb); have n1_ := Aside0.mk (Kd.R_elder' (by (with_reducible repeat (first | apply Kd.R_alloc | apply Kd.R_drewN | apply Kd.R_drew)); exact HO415.out) (Kd.R_base ho0) hb); have n2_ := Aside0.mk (Kd.R_elder' (by (with_reducible repeat (first | apply Kd.R_alloc | apply Kd.R_drewN | apply Kd.R_drew)); exact HO418.out) (Kd.R_base ho0) hb); have n3_ := Aside0.mk (Kd.R_elder' (by (with_reducible repeat (first | apply Kd.R_alloc | apply Kd.R_drewN | apply Kd.R_drew)); exact HO423.out) (Kd.R_base ho0) hb); have n4_ := Aside0.mk (Kd.R_elder' (by (with_reducible repeat (first | apply Kd.R_alloc | apply Kd.R_drewN | apply Kd.R_drew)); exact HO426.out) (Kd.R_base ho0) hb); have n5_ := Aside0.mk (Kd.R_lower (Kd.R_new' (Kd.R_new' (Kd.R_new' (Kd.R_new' (Kd.R_new' ho0 (Kd.R_lt (by (with_reducible repeat (first | apply Kd.R_alloc | apply Kd.R_drewN | apply Kd.R_drew)); exact HO410.out))) (Kd.R_lt (by (with_reducible repeat (first | apply Kd.R_alloc | apply Kd.R_drewN | apply Kd.R_drew)); exact HO415.out))) (Kd.R_lt (by (with_reducible repeat (first | apply Kd.R_alloc | apply Kd.R_drewN | apply Kd.R_drew)); exact HO418.out))) (Kd.R_lt (by (with_reducible repeat (first | apply Kd.R_alloc | apply Kd.R_drewN | apply Kd.R_drew)); exact HO423.out))) (Kd.R_lt (by (with_reducible repeat (first | apply Kd.R_alloc | apply Kd.R_drewN | apply Kd.R_drew)); exact HO426.out))) (below_size (by repeat (first | (with_reducible first | exact HB.out | apply below_alloc | apply pw_below_drewN | apply below_drew1) | exact HB.out)))); have n6_ := Aside0.mk (below_step (by repeat (first | (with_reducible first | exact HB.out | apply below_alloc | apply pw_below_drewN | apply below_drew1) | exact HB.out)) hb); clear HO410; clear HO415; clear HO418; clear HO423; clear HO426; clear HB; have HO410 := n0_; have HO415 := n1_; have HO418 := n2_; have HO423 := n3_; have HO426 := n4_; have HO429 := n5_; have HB := n6_; clear n0_ n1_ n2_ n3_ n4_ n5_ n6_; (try clear hb); (try clear hb2); (try clear hk); (try clear hi); (try clear ho0)) | ((with_reducible refine gate_dst (N := 27) rfl ?_); (try (refine gate_guard (by rfl) ?_; dsimp only)); refine Kd.R_lit (Kd.int .i64) _ 3 ?hg (N := 27) ?hd (xs := ([0, 0, 0, 0, 0, 1, 1] : List Int)) (inner := [.int .i64 0, .int .i64 0, .int .i64 0, .int .i64 0, .int .i64 0, .int .i64 1, .int .i64 1]) (ok := fun _ => True) (okp := fun _ => True) ?hr ?hp (fun _ hk => hk) trivial (Below.refl _ _) (Nat.le_refl _) (by simp) ?_; (case hd => rfl); (case hg => rfl); (case hr => first | (go_simp; done) | (go_simp; rfl)); (case hp => exact (Reps.one (show Kd.M (Kd.int .i64) _ _ _ 0 [.int .i64 0] from rfl) (Reps.one (show Kd.M (Kd.int .i64) _ _ _ 0 [.int .i64 0] from rfl) (Reps.one (show Kd.M (Kd.int .i64) _ _ _ 0 [.int .i64 0] from rfl) (Reps.one (show Kd.M (Kd.int .i64) _ _ _ 0 [.int .i64 0] from rfl) (Reps.one (show Kd.M (Kd.int .i64) _ _ _ 0 [.int .i64 0] from rfl) (Reps.one (show Kd.M (Kd.int .i64) _ _ _ 1 [.int .i64 1] from rfl) (Reps.one (show Kd.M (Kd.int .i64) _ _ _ 1 [.int .i64 1] from rfl) (Reps.none _ _))))))))); intro v431 w29 ho30 hb hg_ hnew_; clear hg_ hnew_; (first | rw [← Ny430.out] at ho30 | (simp only [Int.reduceToNat] at ho30; rw [← Ny430.out] at ho30)); have n0_ := Aside0.mk (Kd.R_elder' (by (with_reducible repeat (first | apply Kd.R_alloc | apply Kd.R_drewN | apply Kd.R_drew)); exact HO410.out) (Kd.R_base ho30) hb); have n1_ := Aside0.mk (Kd.R_elder' (by (with_reducible repeat (first | apply Kd.R_alloc | apply Kd.R_drewN | apply Kd.R_drew)); exact HO415.out) (Kd.R_base ho30) hb); have n2_ := Aside0.mk (Kd.R_elder' (by (with_reducible repeat (first | apply Kd.R_alloc | apply Kd.R_drewN | apply Kd.R_drew)); exact HO418.out) (Kd.R_base ho30) hb); have n3_ := Aside0.mk (Kd.R_elder' (by (with_reducible repeat (first | apply Kd.R_alloc | apply Kd.R_drewN | apply Kd.R_drew)); exact HO423.out) (Kd.R_base ho30) hb); have n4_ := Aside0.mk (Kd.R_elder' (by (with_reducible repeat (first | apply Kd.R_alloc | apply Kd.R_drewN | apply Kd.R_drew)); exact HO426.out) (Kd.R_base ho30) hb); have n5_ := Aside0.mk (Kd.R_elder' (by (with_reducible repeat (first | apply Kd.R_alloc | apply Kd.R_drewN | apply Kd.R_drew)); exact HO429.out) (Kd.R_base ho30) hb); have n6_ := Aside0.mk (Kd.R_lower (Kd.R_new' (Kd.R_new' (Kd.R_new' (Kd.R_new' (Kd.R_new' (Kd.R_new' ho30 (Kd.R_lt (by (with_reducible repeat (first | apply Kd.R_alloc | apply Kd.R_drewN | apply Kd.R_drew)); exact HO410.out))) (Kd.R_lt (by (with_reducible repeat (first | apply Kd.R_alloc | apply Kd.R_drewN | apply Kd.R_drew)); exact HO415.out))) (Kd.R_lt (by (with_reducible repeat (first | apply Kd.R_alloc | apply Kd.R_drewN | apply Kd.R_drew)); exact HO418.out))) (Kd.R_lt (by (with_reducible repeat (first | apply Kd.R_alloc | apply Kd.R_drewN | apply Kd.R_drew)); exact HO423.out))) (Kd.R_lt (by (with_reducible repeat (first | apply Kd.R_alloc | apply Kd.R_drewN | apply Kd.R_drew)); exact HO426.out))) (Kd.R_lt (by (with_reducible repeat (first | apply Kd.R_alloc | apply Kd.R_drewN | apply Kd.R_drew)); exact HO429.out))) (below_size (by repeat (first | (with_reducible first | exact HB.out | apply below_alloc | apply pw_below_drewN | apply below_drew1) | exact HB.out)))); have n7_ := Aside0.mk (below_step (by repeat (first | (with_reducible first | exact HB.out | apply below_alloc | apply pw_below_drewN | apply below_drew1) | exact HB.out)) hb); clear HO410; clear HO415; clear HO418; clear HO423; clear HO426; clear HO429; clear HB; have HO410 := n0_; have HO415 := n1_; have HO418 := n2_; have HO423 := n3_; have HO426 := n4_; have HO429 := n5_; have HO432 := n6_; have HB := n7_; clear n0_ n1_ n2_ n3_ n4_ n5_ n6_ n7_; clear hb ho30; obtain ⟨Ao31, co31, eo31⟩ := Kd.R_slice HO429.out; subst eo31; obtain ⟨Ao32, co32, eo32⟩ := Kd.R_slice HO432.out; subst eo32) | ((with_reducible refine gate_callee (f := 42) rfl ?_); refine goesL_ (some 28) rfl rfl Try.func42 (by kernel_rfl) rfl #[.slice Ao31 t427.length co31, .slice Ao32 y430.length co32] rfl (by (try simp only [List.map_toArray, List.map_cons, List.map_nil]); first | done | rfl | (simp only [List.length_drop, List.length_take]; rfl)) ?_; (with_reducible refine (magnetolaw05_ints.calls k _ _ t427 _ _ y430 true _ ?side1 ?side2 ?side3 ?side4 A5.out).mono ?_); (case side1 => repeat (first | exact (Kd.R_reads' HO429.out).2.2 | (with_reducible refine Kd.C_alloc ?_ _) | (with_reducible refine Kd.C_drewN ?_ _) | (with_reducible refine Kd.C_drew ?_))); (case side2 => exact (Kd.R_reads' HO429.out).2.1); (case side3 => repeat (first | exact (Kd.R_reads' HO432.out).2.2 | (with_reducible refine Kd.C_alloc ?_ _) | (with_reducible refine Kd.C_drewN ?_ _) | (with_reducible refine Kd.C_drew ?_))); (case side4 => exact (Kd.R_reads' HO432.out).2.1); rintro e w' ⟨rfl, ⟨nd, rfl⟩⟩; refine ⟨_, rfl, ?_⟩) | ((with_reducible refine gate_dst (N := 30) rfl ?_); (try (refine gate_guard (by rfl) ?_; dsimp only)); refine Kd.R_lit (Kd.int .i64) _ 3 ?hg (N := 30) ?hd (xs := ([1, 1, 1, 1, 1, 1, 1, 1, 1] : List Int)) (inner := [.int .i64 1, .int .i64 1, .int .i64 1, .int .i64 1, .int .i64 1, .int .i64 1, .int .i64 1, .int .i64 1, .int .i64 1]) (ok := fun _ => True) (okp := fun _ => True) ?hr ?hp (fun _ hk => hk) trivial (Below.refl _ _) (Nat.le_refl _) (by simp) ?_; (case hd => rfl); (case hg => rfl); (case hr => first | (go_simp; done) | (go_simp; rfl)); (case hp => exact (Reps.one (show Kd.M (Kd.int .i64) _ _ _ 1 [.int .i64 1] from rfl) (Reps.one (show Kd.M (Kd.int .i64) _ _ _ 1 [.int .i64 1] from rfl) (Reps.one (show Kd.M (Kd.int .i64) _ _ _ 1 [.int .i64 1] from rfl) (Reps.one (show Kd.M (Kd.int .i64) _ _ _ 1 [.int .i64 1] from rfl) (Reps.one (show Kd.M (Kd.int .i64) _ _ _ 1 [.int .i64 1] from rfl) (Reps.one (show Kd.M (Kd.int .i64) _ _ _ 1 [.int .i64 1] from rfl) (Reps.one (show Kd.M (Kd.int .i64) _ _ _ 1 [.int .i64 1] from rfl) (Reps.one (show Kd.M (Kd.int .i64) _ _ _ 1 [.int .i64 1] from rfl) (Reps.one (show Kd.M (Kd.int .i64) _ _ _ 1 [.int .i64 1] from rfl) (Reps.none _ _))))))))))); intro v435 w33 ho34 hb hg_ hnew_; clear hg_ hnew_; (first | rw [← Ny434.out] at ho34 | (simp only [Int.reduceToNat] at ho34; rw [← Ny434.out] at ho34)); have n0_ := Aside0.mk (Kd.R_elder' (by (with_reducible repeat (first | apply Kd.R_alloc | apply Kd.R_drewN | apply Kd.R_drew)); exact HO410.out) (Kd.R_base ho34) hb); have n1_ := Aside0.mk (Kd.R_elder' (by (with_reducible repeat (first | apply Kd.R_alloc | apply Kd.R_drewN | apply Kd.R_drew)); exact HO415.out) (Kd.R_base ho34) hb); have n2_ := Aside0.mk (Kd.R_elder' (by (with_reducible repeat (first | apply Kd.R_alloc | apply Kd.R_drewN | apply Kd.R_drew)); exact HO418.out) (Kd.R_base ho34) hb); have n3_ := Aside0.mk (Kd.R_elder' (by (with_reducible repeat (first | apply Kd.R_alloc | apply Kd.R_drewN | apply Kd.R_drew)); exact HO423.out) (Kd.R_base ho34) hb); have n4_ := Aside0.mk (Kd.R_elder' (by (with_reducible repeat (first | apply Kd.R_alloc | apply Kd.R_drewN | apply Kd.R_drew)); exact HO426.out) (Kd.R_base ho34) hb); have n5_ := Aside0.mk (Kd.R_elder' (by (with_reducible repeat (first | apply Kd.R_alloc | apply Kd.R_drewN | apply Kd.R_drew)); exact HO429.out) (Kd.R_base ho34) hb); have n6_ := Aside0.mk (Kd.R_elder' (by (with_reducible repeat (first | apply Kd.R_alloc | apply Kd.R_drewN | apply Kd.R_drew)); exact HO432.out) (Kd.R_base ho34) hb); have n7_ := Aside0.mk (Kd.R_lower (Kd.R_new' (Kd.R_new' (Kd.R_new' (Kd.R_new' (Kd.R_new' (Kd.R_new' (Kd.R_new' ho34 (Kd.R_lt (by (with_reducible repeat (first | apply Kd.R_alloc | apply Kd.R_drewN | apply Kd.R_drew)); exact HO410.out))) (Kd.R_lt (by (with_reducible repeat (first | apply Kd.R_alloc | apply Kd.R_drewN | apply Kd.R_drew)); exact HO415.out))) (Kd.R_lt (by (with_reducible repeat (first | apply Kd.R_alloc | apply Kd.R_drewN | apply Kd.R_drew)); exact HO418.out))) (Kd.R_lt (by (with_reducible repeat (first | apply Kd.R_alloc | apply Kd.R_drewN | apply Kd.R_drew)); exact HO423.out))) (Kd.R_lt (by (with_reducible repeat (first | apply Kd.R_alloc | apply Kd.R_drewN | apply Kd.R_drew)); exact HO426.out))) (Kd.R_lt (by (with_reducible repeat (first | apply Kd.R_alloc | apply Kd.R_drewN | apply Kd.R_drew)); exact HO429.out))) (Kd.R_lt (by (with_reducible repeat (first | apply Kd.R_alloc | apply Kd.R_drewN | apply Kd.R_drew)); exact HO432.out))) (below_size (by repeat (first | (with_reducible first | exact HB.out | apply below_alloc | apply pw_below_drewN | apply below_drew1) | exact HB.out)))); have n8_ := Aside0.mk (below_step (by repeat (first | (with_reducible first | exact HB.out | apply below_alloc | apply pw_below_drewN | apply below_drew1) | exact HB.out)) hb); clear HO410; clear HO415; clear HO418; clear HO423; clear HO426; clear HO429; clear HO432; clear HB; have HO410 := n0_; have HO415 := n1_; have HO418 := n2_; have HO423 := n3_; have HO426 := n4_; have HO429 := n5_; have HO432 := n6_; have HO436 := n7_; have HB := n8_; clear n0_ n1_ n2_ n3_ n4_ n5_ n6_ n7_ n8_; clear hb ho34; obtain ⟨Ao35, co35, eo35⟩ := Kd.R_slice HO436.out; subst eo35) | (go_at_call 43; (with_reducible refine (stuff_Add.calls _ _ y434 t437 _ ?side1 ?side2 A7.out).mono ?_); (case side1 => repeat (first | exact (Kd.R_reads' HO436.out).2.2 | (with_reducible refine Kd.C_alloc ?_ _) | (with_reducible refine Kd.C_drewN ?_ _) | (with_reducible refine Kd.C_drew ?_))); (case side2 => exact (Kd.R_reads' HO436.out).2.1); rintro e w36 ⟨v438, rfl, ho0, hb⟩; have n0_ := Aside0.mk (Kd.R_elder' (by (with_reducible repeat (first | apply Kd.R_alloc | apply Kd.R_drewN | apply Kd.R_drew)); exact HO410.out) (Kd.R_base ho0) hb); have n1_ := Aside0.mk (Kd.R_elder' (by (with_reducible repeat (first | apply Kd.R_alloc | apply Kd.R_drewN | apply Kd.R_drew)); exact HO415.out) (Kd.R_base ho0) hb); have n2_ := Aside0.mk (Kd.R_elder' (by (with_reducible repeat (first | apply Kd.R_alloc | apply Kd.R_drewN | apply Kd.R_drew)); exact HO418.out) (Kd.R_base ho0) hb); have n3_ := Aside0.mk (Kd.R_elder' (by (with_reducible repeat (first | apply Kd.R_alloc | apply Kd.R_drewN | apply Kd.R_drew)); exact HO423.out) (Kd.R_base ho0) hb); have n4_ := Aside0.mk (Kd.R_elder' (by (with_reducible repeat (first | apply Kd.R_alloc | apply Kd.R_drewN | apply Kd.R_drew)); exact HO426.out) (Kd.R_base ho0) hb); have n5_ := Aside0.mk (Kd.R_elder' (by (with_reducible repeat (first | apply Kd.R_alloc | apply Kd.R_drewN | apply Kd.R_drew)); exact HO429.out) (Kd.R_base ho0) hb); have n6_ := Aside0.mk (Kd.R_elder' (by (with_reducible repeat (first | apply Kd.R_alloc | apply Kd.R_drewN | apply Kd.R_drew)); exact HO432.out) (Kd.R_base ho0) hb); have n7_ := Aside0.mk (Kd.R_elder' (by (with_reducible repeat (first | apply Kd.R_alloc | apply Kd.R_drewN | apply Kd.R_drew)); exact HO436.out) (Kd.R_base ho0) hb); have n8_ := Aside0.mk (Kd.R_lower (Kd.R_new' (Kd.R_new' (Kd.R_new' (Kd.R_new' (Kd.R_new' (Kd.R_new' (Kd.R_new' (Kd.R_new' ho0 (Kd.R_lt (by (with_reducible repeat (first | apply Kd.R_alloc | apply Kd.R_drewN | apply Kd.R_drew)); exact HO410.out))) (Kd.R_lt (by (with_reducible repeat (first | apply Kd.R_alloc | apply Kd.R_drewN | apply Kd.R_drew)); exact HO415.out))) (Kd.R_lt (by (with_reducible repeat (first | apply Kd.R_alloc | apply Kd.R_drewN | apply Kd.R_drew)); exact HO418.out))) (Kd.R_lt (by (with_reducible repeat (first | apply Kd.R_alloc | apply Kd.R_drewN | apply Kd.R_drew)); exact HO423.out))) (Kd.R_lt (by (with_reducible repeat (first | apply Kd.R_alloc | apply Kd.R_drewN | apply Kd.R_drew)); exact HO426.out))) (Kd.R_lt (by (with_reducible repeat (first | apply Kd.R_alloc | apply Kd.R_drewN | apply Kd.R_drew)); exact HO429.out))) (Kd.R_lt (by (with_reducible repeat (first | apply Kd.R_alloc | apply Kd.R_drewN | apply Kd.R_drew)); exact HO432.out))) (Kd.R_lt (by (with_reducible repeat (first | apply Kd.R_alloc | apply Kd.R_drewN | apply Kd.R_drew)); exact HO436.out))) (below_size (by repeat (first | (with_reducible first | exact HB.out | apply below_alloc | apply pw_below_drewN | apply below_drew1) | exact HB.out)))); have n9_ := Aside0.mk (below_step (by repeat (first | (with_reducible first | exact HB.out | apply below_alloc | apply pw_below_drewN | apply below_drew1) | exact HB.out)) hb); clear HO410; clear HO415; clear HO418; clear HO423; clear HO426; clear HO429; clear HO432; clear HO436; clear HB; have HO410 := n0_; have HO415 := n1_; have HO418 := n2_; have HO423 := n3_; have HO426 := n4_; have HO429 := n5_; have HO432 := n6_; have HO436 := n7_; have HO439 := n8_; have HB := n9_; clear n0_ n1_ n2_ n3_ n4_ n5_ n6_ n7_ n8_ n9_; (try clear hb); (try clear hb2); (try clear hk); (try clear hi); (try clear ho0)) | ((with_reducible refine gate_dst (N := 32) rfl ?_); (try (refine gate_guard (by rfl) ?_; dsimp only)); refine Kd.R_lit (Kd.int .i64) _ 3 ?hg (N := 32) ?hd (xs := ([1, 1, 1, 1, 1, 0, 1, 1, 1, 1] : List Int)) (inner := [.int .i64 1, .int .i64 1, .int .i64 1, .int .i64 1, .int .i64 1, .int .i64 0, .int .i64 1, .int .i64 1, .int .i64 1, .int .i64 1]) (ok := fun _ => True) (okp := fun _ => True) ?hr ?hp (fun _ hk => hk) trivial (Below.refl _ _) (Nat.le_refl _) (by simp) ?_; (case hd => rfl); (case hg => rfl); (case hr => first | (go_simp; done) | (go_simp; rfl)); (case hp => exact (Reps.one (show Kd.M (Kd.int .i64) _ _ _ 1 [.int .i64 1] from rfl) (Reps.one (show Kd.M (Kd.int .i64) _ _ _ 1 [.int .i64 1] from rfl) (Reps.one (show Kd.M (Kd.int .i64) _ _ _ 1 [.int .i64 1] from rfl) (Reps.one (show Kd.M (Kd.int .i64) _ _ _ 1 [.int .i64 1] from rfl) (Reps.one (show Kd.M (Kd.int .i64) _ _ _ 1 [.int .i64 1] from rfl) (Reps.one (show Kd.M (Kd.int .i64) _ _ _ 0 [.int .i64 0] from rfl) (Reps.one (show Kd.M (Kd.int .i64) _ _ _ 1 [.int .i64 1] from rfl) (Reps.one (show Kd.M (Kd.int .i64) _ _ _ 1 [.int .i64 1] from rfl) (Reps.one (show Kd.M (Kd.int .i64) _ _ _ 1 [.int .i64 1] from rfl) (Reps.one (show Kd.M (Kd.int .i64) _ _ _ 1 [.int .i64 1] from rfl) (Reps.none _ _)))))))))))); intro v441 w37 ho38 hb hg_ hnew_; clear hg_ hnew_; (first | rw [← Ny440.out] at ho38 | (simp only [Int.reduceToNat] at ho38; rw [← Ny440.out] at ho38)); have n0_ := Aside0.mk (Kd.R_elder' (by (with_reducible repeat (first | apply Kd.R_alloc | apply Kd.R_drewN | apply Kd.R_drew)); exact HO410.out) (Kd.R_base ho38) hb); have n1_ := Aside0.mk (Kd.R_elder' (by (with_reducible repeat (first | apply Kd.R_alloc | apply Kd.R_drewN | apply Kd.R_drew)); exact HO415.out) (Kd.R_base ho38) hb); have n2_ := Aside0.mk (Kd.R_elder' (by (with_reducible repeat (first | apply Kd.R_alloc | apply Kd.R_drewN | apply Kd.R_drew)); exact HO418.out) (Kd.R_base ho38) hb); have n3_ := Aside0.mk (Kd.R_elder' (by (with_reducible repeat (first | apply Kd.R_alloc | apply Kd.R_drewN | apply Kd.R_drew)); exact HO423.out) (Kd.R_base ho38) hb); have n4_ := Aside0.mk (Kd.R_elder' (by (with_reducible repeat (first | apply Kd.R_alloc | apply Kd.R_drewN | apply Kd.R_drew)); exact HO426.out) (Kd.R_base ho38) hb); have n5_ := Aside0.mk (Kd.R_elder' (by (with_reducible repeat (first | apply Kd.R_alloc | apply Kd.R_drewN | apply Kd.R_drew)); exact HO429.out) (Kd.R_base ho38) hb); have n6_ := Aside0.mk (Kd.R_elder' (by (with_reducible repeat (first | apply Kd.R_alloc | apply Kd.R_drewN | apply Kd.R_drew)); exact HO432.out) (Kd.R_base ho38) hb); have n7_ := Aside0.mk (Kd.R_elder' (by (with_reducible repeat (first | apply Kd.R_alloc | apply Kd.R_drewN | apply Kd.R_drew)); exact HO436.out) (Kd.R_base ho38) hb); have n8_ := Aside0.mk (Kd.R_elder' (by (with_reducible repeat (first | apply Kd.R_alloc | apply Kd.R_drewN | apply Kd.R_drew)); exact HO439.out) (Kd.R_base ho38) hb); have n9_ := Aside0.mk (Kd.R_lower (Kd.R_new' (Kd.R_new' (Kd.R_new' (Kd.R_new' (Kd.R_new' (Kd.R_new' (Kd.R_new' (Kd.R_new' (Kd.R_new' ho38 (Kd.R_lt (by (with_reducible repeat (first | apply Kd.R_alloc | apply Kd.R_drewN | apply Kd.R_drew)); exact HO410.out))) (Kd.R_lt (by (with_reducible repeat (first | apply Kd.R_alloc | apply Kd.R_drewN | apply Kd.R_drew)); exact HO415.out))) (Kd.R_lt (by (with_reducible repeat (first | apply Kd.R_alloc | apply Kd.R_drewN | apply Kd.R_drew)); exact HO418.out))) (Kd.R_lt (by (with_reducible repeat (first | apply Kd.R_alloc | apply Kd.R_drewN | apply Kd.R_drew)); exact HO423.out))) (Kd.R_lt (by (with_reducible repeat (first | apply Kd.R_alloc | apply Kd.R_drewN | apply Kd.R_drew)); exact HO426.out))) (Kd.R_lt (by (with_reducible repeat (first | apply Kd.R_alloc | apply Kd.R_drewN | apply Kd.R_drew)); exact HO429.out))) (Kd.R_lt (by (with_reducible repeat (first | apply Kd.R_alloc | apply Kd.R_drewN | apply Kd.R_drew)); exact HO432.out))) (Kd.R_lt (by (with_reducible repeat (first | apply Kd.R_alloc | apply Kd.R_drewN | apply Kd.R_drew)); exact HO436.out))) (Kd.R_lt (by (with_reducible repeat (first | apply Kd.R_alloc | apply Kd.R_drewN | apply Kd.R_drew)); exact HO439.out))) (below_size (by repeat (first | (with_reducible first | exact HB.out | apply below_alloc | apply pw_below_drewN | apply below_drew1) | exact HB.out)))); have n10_ := Aside0.mk (below_step (by repeat (first | (with_reducible first | exact HB.out | apply below_alloc | apply pw_below_drewN | apply below_drew1) | exact HB.out)) hb); clear HO410; clear HO415; clear HO418; clear HO423; clear HO426; clear HO429; clear HO432; clear HO436; clear HO439; clear HB; have HO410 := n0_; have HO415 := n1_; have HO418 := n2_; have HO423 := n3_; have HO426 := n4_; have HO429 := n5_; have HO432 := n6_; have HO436 := n7_; have HO439 := n8_; have HO442 := n9_; have HB := n10_; clear n0_ n1_ n2_ n3_ n4_ n5_ n6_ n7_ n8_ n9_ n10_; clear hb ho38; obtain ⟨Ao39, co39, eo39⟩ := Kd.R_slice HO439.out; subst eo39; obtain ⟨Ao40, co40, eo40⟩ := Kd.R_slice HO442.out; subst eo40) | (go_at_call 42; (with_reducible refine (magnetolaw05_ints.calls k _ _ t437 _ _ y440 true _ ?side1 ?side2 ?side3 ?side4 A8.out).mono ?_); (case side1 => repeat (first | exact (Kd.R_reads' HO439.out).2.2 | (with_reducible refine Kd.C_alloc ?_ _) | (with_reducible refine Kd.C_drewN ?_ _) | (with_reducible refine Kd.C_drew ?_))); (case side2 => exact (Kd.R_reads' HO439.out).2.1); (case side3 => repeat (first | exact (Kd.R_reads' HO442.out).2.2 | (with_reducible refine Kd.C_alloc ?_ _) | (with_reducible refine Kd.C_drewN ?_ _) | (with_reducible refine Kd.C_drew ?_))); (case side4 => exact (Kd.R_reads' HO442.out).2.1); rintro e w' ⟨rfl, ⟨nd, rfl⟩⟩) | ((with_reducible refine gate_dst (N := 36) rfl ?_); (try (refine gate_guard (by rfl) ?_; dsimp only)); refine Kd.R_lit (Kd.int .i64) _ 3 ?hg (N := 36) ?hd (xs := ([1, 1, 1, 1, 1, 0, 0, 0, 0] : List Int)) (inner := [.int .i64 1, .int .i64 1, .int .i64 1, .int .i64 1, .int .i64 1, .int .i64 0, .int .i64 0, .int .i64 0, .int .i64 0]) (ok := fun _ => True) (okp := fun _ => True) ?hr ?hp (fun _ hk => hk) trivial (Below.refl _ _) (Nat.le_refl _) (by simp) ?_; (case hd => rfl); (case hg => rfl); (case hr => first | (go_simp; done) | (go_simp; rfl)); (case hp => exact (Reps.one (show Kd.M (Kd.int .i64) _ _ _ 1 [.int .i64 1] from rfl) (Reps.one (show Kd.M (Kd.int .i64) _ _ _ 1 [.int .i64 1] from rfl) (Reps.one (show Kd.M (Kd.int .i64) _ _ _ 1 [.int .i64 1] from rfl) (Reps.one (show Kd.M (Kd.int .i64) _ _ _ 1 [.int .i64 1] from rfl) (Reps.one (show Kd.M (Kd.int .i64) _ _ _ 1 [.int .i64 1] from rfl) (Reps.one (show Kd.M (Kd.int .i64) _ _ _ 0 [.int .i64 0] from rfl) (Reps.one (show Kd.M (Kd.int .i64) _ _ _ 0 [.int .i64 0] from rfl) (Reps.one (show Kd.M (Kd.int .i64) _ _ _ 0 [.int .i64 0] from rfl) (Reps.one (show Kd.M (Kd.int .i64) _ _ _ 0 [.int .i64 0] from rfl) (Reps.none _ _))))))))))); intro v445 w41 ho42 hb hg_ hnew_; clear hg_ hnew_; (first | rw [← Ny444.out] at ho42 | (simp only [Int.reduceToNat] at ho42; rw [← Ny444.out] at ho42)); have n0_ := Aside0.mk (Kd.R_elder' (by (with_reducible repeat (first | apply Kd.R_alloc | apply Kd.R_drewN | apply Kd.R_drew)); exact HO410.out) (Kd.R_base ho42) hb); have n1_ := Aside0.mk (Kd.R_elder' (by (with_reducible repeat (first | apply Kd.R_alloc | apply Kd.R_drewN | apply Kd.R_drew)); exact HO415.out) (Kd.R_base ho42) hb); have n2_ := Aside0.mk (Kd.R_elder' (by (with_reducible repeat (first | apply Kd.R_alloc | apply Kd.R_drewN | apply Kd.R_drew)); exact HO418.out) (Kd.R_base ho42) hb); have n3_ := Aside0.mk (Kd.R_elder' (by (with_reducible repeat (first | apply Kd.R_alloc | apply Kd.R_drewN | apply Kd.R_drew)); exact HO423.out) (Kd.R_base ho42) hb); have n4_ := Aside0.mk (Kd.R_elder' (by (with_reducible repeat (first | apply Kd.R_alloc | apply Kd.R_drewN | apply Kd.R_drew)); exact HO426.out) (Kd.R_base ho42) hb); have n5_ := Aside0.mk (Kd.R_elder' (by (with_reducible repeat (first | apply Kd.R_alloc | apply Kd.R_drewN | apply Kd.R_drew)); exact HO429.out) (Kd.R_base ho42) hb); have n6_ := Aside0.mk (Kd.R_elder' (by (with_reducible repeat (first | apply Kd.R_alloc | apply Kd.R_drewN | apply Kd.R_drew)); exact HO432.out) (Kd.R_base ho42) hb); have n7_ := Aside0.mk (Kd.R_elder' (by (with_reducible repeat (first | apply Kd.R_alloc | apply Kd.R_drewN | apply Kd.R_drew)); exact HO436.out) (Kd.R_base ho42) hb); have n8_ := Aside0.mk (Kd.R_elder' (by (with_reducible repeat (first | apply Kd.R_alloc | apply Kd.R_drewN | apply Kd.R_drew)); exact HO439.out) (Kd.R_base ho42) hb); have n9_ := Aside0.mk (Kd.R_elder' (by (with_reducible repeat (first | apply Kd.R_alloc | apply Kd.R_drewN | apply Kd.R_drew)); exact HO442.out) (Kd.R_base ho42) hb); have n10_ := Aside0.mk (Kd.R_lower (Kd.R_new' (Kd.R_new' (Kd.R_new' (Kd.R_new' (Kd.R_new' (Kd.R_new' (Kd.R_new' (Kd.R_new' (Kd.R_new' (Kd.R_new' ho42 (Kd.R_lt (by (with_reducible repeat (first | apply Kd.R_alloc | apply Kd.R_drewN | apply Kd.R_drew)); exact HO410.out))) (Kd.R_lt (by (with_reducible repeat (first | apply Kd.R_alloc | apply Kd.R_drewN | apply Kd.R_drew)); exact HO415.out))) (Kd.R_lt (by (with_reducible repeat (first | apply Kd.R_alloc | apply Kd.R_drewN | apply Kd.R_drew)); exact HO418.out))) (Kd.R_lt (by (with_reducible repeat (first | apply Kd.R_alloc | apply Kd.R_drewN | apply Kd.R_drew)); exact HO423.out))) (Kd.R_lt (by (with_reducible repeat (first | apply Kd.R_alloc | apply Kd.R_drewN | apply Kd.R_drew)); exact HO426.out))) (Kd.R_lt (by (with_reducible repeat (first | apply Kd.R_alloc | apply Kd.R_drewN | apply Kd.R_drew)); exact HO429.out))) (Kd.R_lt (by (with_reducible repeat (first | apply Kd.R_alloc | apply Kd.R_drewN | apply Kd.R_drew)); exact HO432.out))) (Kd.R_lt (by (with_reducible repeat (first | apply Kd.R_alloc | apply Kd.R_drewN | apply Kd.R_drew)); exact HO436.out))) (Kd.R_lt (by (with_reducible repeat (first | apply Kd.R_alloc | apply Kd.R_drewN | apply Kd.R_drew)); exact HO439.out))) (Kd.R_lt (by (with_reducible repeat (first | apply Kd.R_alloc | apply Kd.R_drewN | apply Kd.R_drew)); exact HO442.out))) (below_size (by repeat (first | (with_reducible first | exact HB.out | apply below_alloc | apply pw_below_drewN | apply below_drew1) | exact HB.out)))); have n11_ := Aside0.mk (below_step (by repeat (first | (with_reducible first | exact HB.out | apply below_alloc | apply pw_below_drewN | apply below_drew1) | exact HB.out)) hb); clear HO410; clear HO415; clear HO418; clear HO423; clear HO426; clear HO429; clear HO432; clear HO436; clear HO439; clear HO442; clear HB; have HO410 := n0_; have HO415 := n1_; have HO418 := n2_; have HO423 := n3_; have HO426 := n4_; have HO429 := n5_; have HO432 := n6_; have HO436 := n7_; have HO439 := n8_; have HO442 := n9_; have HO446 := n10_; have HB := n11_; clear n0_ n1_ n2_ n3_ n4_ n5_ n6_ n7_ n8_ n9_ n10_ n11_; clear hb ho42; obtain ⟨Ao43, co43, eo43⟩ := Kd.R_slice HO446.out; subst eo43) | (go_at_call 44; (with_reducible refine (stuff_Count.calls _ _ y444 t447 _ ?side1 ?side2 A10.out).mono ?_); (case side1 => repeat (first | exact (Kd.R_reads' HO446.out).2.2 | (with_reducible refine Kd.C_alloc ?_ _) | (with_reducible refine Kd.C_drewN ?_ _) | (with_reducible refine Kd.C_drew ?_))); (case side2 => exact (Kd.R_reads' HO446.out).2.1); rintro e w44 ⟨rfl, hb⟩; have n0_ := Aside0.mk (Kd.R_below (by (with_reducible repeat (first | apply Kd.R_alloc | apply Kd.R_drewN | apply Kd.R_drew)); exact HO410.out) hb); have n1_ := Aside0.mk (Kd.R_below (by (with_reducible repeat (first | apply Kd.R_alloc | apply Kd.R_drewN | apply Kd.R_drew)); exact HO415.out) hb); have n2_ := Aside0.mk (Kd.R_below (by (with_reducible repeat (first | apply Kd.R_alloc | apply Kd.R_drewN | apply Kd.R_drew)); exact HO418.out) hb); have n3_ := Aside0.mk (Kd.R_below (by (with_reducible repeat (first | apply Kd.R_alloc | apply Kd.R_drewN | apply Kd.R_drew)); exact HO423.out) hb); have n4_ := Aside0.mk (Kd.R_below (by (with_reducible repeat (first | apply Kd.R_alloc | apply Kd.R_drewN | apply Kd.R_drew)); exact HO426.out) hb); have n5_ := Aside0.mk (Kd.R_below (by (with_reducible repeat (first | apply Kd.R_alloc | apply Kd.R_drewN | apply Kd.R_drew)); exact HO429.out) hb); have n6_ := Aside0.mk (Kd.R_below (by (with_reducible repeat (first | apply Kd.R_alloc | apply Kd.R_drewN | apply Kd.R_drew)); exact HO432.out) hb); have n7_ := Aside0.mk (Kd.R_below (by (with_reducible repeat (first | apply Kd.R_alloc | apply Kd.R_drewN | apply Kd.R_drew)); exact HO436.out) hb); have n8_ := Aside0.mk (Kd.R_below (by (with_reducible repeat (first | apply Kd.R_alloc | apply Kd.R_drewN | apply Kd.R_drew)); exact HO439.out) hb); have n9_ := Aside0.mk (Kd.R_below (by (with_reducible repeat (first | apply Kd.R_alloc | apply Kd.R_drewN | apply Kd.R_drew)); exact HO442.out) hb); have n10_ := Aside0.mk (Kd.R_below (by (with_reducible repeat (first | apply Kd.R_alloc | apply Kd.R_drewN | apply Kd.R_drew)); exact HO446.out) hb); have n11_ := Aside0.mk (below_step (by repeat (first | (with_reducible first | exact HB.out | apply below_alloc | apply pw_below_drewN | apply below_drew1) | exact HB.out)) hb); clear HO410; clear HO415; clear HO418; clear HO423; clear HO426; clear HO429; clear HO432; clear HO436; clear HO439; clear HO442; clear HO446; clear HB; have HO410 := n0_; have HO415 := n1_; have HO418 := n2_; have HO423 := n3_; have HO426 := n4_; have HO429 := n5_; have HO432 := n6_; have HO436 := n7_; have HO439 := n8_; have HO442 := n9_; have HO446 := n10_; have HB := n11_; clear n0_ n1_ n2_ n3_ n4_ n5_ n6_ n7_ n8_ n9_ n10_ n11_; (try clear hb); (try clear hb2); (try clear hk); (try clear hi)))
         go_ret
         exact ⟨by first | rfl | (simp [errW_none, errW_some] <;> rfl) | (simp [*, errW_none, errW_some] <;> rfl), by repeat (first | (with_reducible first | exact HB.out | apply below_alloc | apply pw_below_drewN | apply below_drew1) | exact HB.out)⟩
        ·
         rw [if_neg c16] at H
         exact absurd H (by simp)
       ·
        rw [if_neg c15] at H
        exact absurd H (by simp)
      ·
       rw [if_neg c14] at H
       exact absurd H (by simp)
     ·
      rw [if_neg c13] at H
      exact absurd H (by simp)
    ·
     rw [if_neg c12] at H
     exact absurd H (by simp)
   ·
    rw [if_neg c11] at H
    exact absurd H (by simp)
  ·
   replace c9 := Bool.eq_false_iff.mpr c9
   subst c9
   have H1 : (none) = some r := by rw [if_neg (show ¬ (false = true) by decide)] at H; exact H
   clear H
   have H := H1
   clear H1
   exact absurd H (by simp)
 ·
  replace c6 := Bool.eq_false_iff.mpr c6
  subst c6
  have H1 : (none) = some r := by rw [if_neg (show ¬ (false = true) by decide)] at H; exact H
  clear H
  have H := H1
  clear H1
  exact absurd H (by simp)

/-! ### magnetoref05_Five: function 54 -/
def magnetoref05_Five.l0 : Nat → List Int → Int → Int → Option (Bool)
 | 0, _, _, _ => none
 | k + 1, x0, x3, x4 => if x4 < x3 then (if 0 ≤ x4 then (if x4 < (x0.length : Int) then (if 0 ≤ (wrap64 (x3 - 5)) then (if (wrap64 (x3 - 5)) < (x0.length : Int) then (if (rd x0 x4) = (rd x0 (wrap64 (x3 - 5))) then (magnetoref05_Five.l0 k x0 x3 (wrap64 (x4 + 1))) else (some false)) else (none)) else (none)) else (none)) else (none)) else (some true)
def magnetoref05_Five.f (k : Nat) (l0 : List Int) : Option (Bool) := if (l0.length : Int) < 5 then (some false) else (magnetoref05_Five.l0 k l0 (l0.length : Int) (wrap64 ((l0.length : Int) - 4)))
theorem magnetoref05_Five.mono_l : ∀ k, (∀ y0 y1 y2, LeO (magnetoref05_Five.l0 k y0 y1 y2) (magnetoref05_Five.l0 (k + 1) y0 y1 y2))
 | 0 => fun _ _ _ r h => by simp [magnetoref05_Five.l0] at h
 | k + 1 => by
  have ih0 := magnetoref05_Five.mono_l k
  ·
   intro y0 y1 y2
   unfold magnetoref05_Five.l0
   repeat' first
   | (with_reducible exact ih0 _ _ _)
   | (with_reducible exact LeO.refl _)
   | (with_reducible exact LeO.none _)
   | (with_reducible refine LeO.ite ?_ ?_)
   | (with_reducible refine LeO.bind ?_ (fun _ => ?_))
   | exact ih0 _ _ _
   | exact LeO.none _
   | refine LeO.ite ?_ ?_
   | refine LeO.bind ?_ (fun _ => ?_)
theorem magnetoref05_Five.mono : ∀ a0 k, LeO (magnetoref05_Five.f k a0) (magnetoref05_Five.f (k + 1) a0) := by
 intro a0 k
 have ih0 := magnetoref05_Five.mono_l k
 unfold magnetoref05_Five.f
 repeat' first
   | (with_reducible exact ih0 _ _ _)
   | (with_reducible exact LeO.refl _)
   | (with_reducible exact LeO.none _)
   | (with_reducible refine LeO.ite ?_ ?_)
   | (with_reducible refine LeO.bind ?_ (fun _ => ?_))
   | exact ih0 _ _ _
   | exact LeO.none _
   | refine LeO.ite ?_ ?_
   | refine LeO.bind ?_ (fun _ => ?_)
set_option maxHeartbeats 8000000 in
set_option maxRecDepth 100000 in
theorem magnetoref05_Five.calls (k : Nat) (A0 : Option Addr) (c0 : Nat) (l0 : List Int) (r : Bool) (w : World) (hr0 : Kd.C (Kd.int .i64) w A0 l0.length l0) (hc0 : l0.length ≤ c0) (h : magnetoref05_Five.f k l0 = some r) :
  Calls Try.prog 54 #[.slice A0 l0.length c0] w fun e w' => e = .returned (.bool r) ∧ Drawn0 w w' := by
 have HR0 := Aside0.mk hr0
 have HC0 := Aside0.mk hc0
 clear hr0 hc0
 have H : (if (l0.length : Int) < 5 then (some false) else (magnetoref05_Five.l0 k l0 (l0.length : Int) (wrap64 ((l0.length : Int) - 4)))) = some r := h
 clear h
 by_cases c2 : (l0.length : Int) < 5
 ·
  rw [if_pos c2] at H
  have c2b0 : decide ((l0.length : Int) < 5) = true := decide_eq_true c2
  have c2b1 : decide (l0.length < 5) = true := decide_eq_true (by omega)
  clear c2
  obtain rfl := Option.some.inj H
  go_enter Try.func54, Try.ntmps54
  go_wp2
  repeat (go_quiet (fail); try go_wp2)
  go_ret
  exact ⟨by first | rfl | (simp; done) | (simp [*]; done), by repeat (first | exact Drawn0.refl _ | apply Drawn0.step)⟩
 ·
  rw [if_neg c2] at H
  have c2b0 : decide ((l0.length : Int) < 5) = false := decide_eq_false c2
  have c2b1 : decide (l0.length < 5) = false := decide_eq_false (by omega)
  clear c2
  have H' := Aside0.mk H
  clear H
  go_enter Try.func54, Try.ntmps54
  go_wp2
  repeat (go_quiet (fail); try go_wp2)
  go_loopg [4] k (fun kq v4 w' => ∃ (x4_1 : Int), v4 = .int .i64 x4_1 ∧ Aside0 (magnetoref05_Five.l0 kq l0 (l0.length : Int) x4_1 = some r) ∧ Aside0 (kq ≤ k) ∧ Drawn0 w w')
  case atStart => exact ⟨(wrap64 ((l0.length : Int) - 4)), (by first | rfl | (simp; done) | (simp [*]; done)), H', ⟨Nat.le_refl _⟩, by repeat (first | exact Drawn0.refl _ | apply Drawn0.step)⟩
  case round =>
   clear H'
   try clear c2
   try clear c2b0
   try clear c2b1
   try clear p2
   obtain ⟨x4_1, rfl, HA, HK1, ⟨m1, rfl⟩⟩ := hrel
   cases gk with
   | zero => exact absurd HA.out (by simp [magnetoref05_Five.l0])
   | succ k1 =>
    have H := HA.out
    clear HA
    simp only [magnetoref05_Five.l0] at H
    by_cases c3 : x4_1 < (l0.length : Int)
    ·
     rw [if_pos c3] at H
     have c3b0 : decide (x4_1 < (l0.length : Int)) = true := decide_eq_true c3
     clear c3
     by_cases c4 : 0 ≤ x4_1
     ·
      rw [if_pos c4] at H
      have c4b0 : decide (0 ≤ x4_1) = true := decide_eq_true c4
      clear c4
      by_cases c5 : x4_1 < (l0.length : Int)
      ·
       rw [if_pos c5] at H
       have c5b0 : decide (x4_1 < (l0.length : Int)) = true := decide_eq_true c5
       clear c5
       obtain ⟨ji6, hji6⟩ : ∃ j_ : Int, (wrap64 ((l0.length : Int) - 5)) = j_ := ⟨_, rfl⟩
       replace H : (if 0 ≤ (ji6) then (if (ji6) < (l0.length : Int) then (if (rd l0 x4_1) = (rd l0 (ji6)) then (magnetoref05_Five.l0 k1 l0 (l0.length : Int) (wrap64 (x4_1 + 1))) else (some false)) else (none)) else (none)) = some r := by first | (rw [hji6] at H; exact H) | (simp only [hji6] at H ⊢; exact H)
       have hji6w : (IntKind.i64.wrap ((l0.length : Int) - 5)) = ji6 := (i64_w _).trans hji6
       by_cases c7 : 0 ≤ (ji6)
       ·
        rw [if_pos c7] at H
        have c7b0 : decide (0 ≤ (ji6)) = true := decide_eq_true c7
        clear c7
        by_cases c8 : (ji6) < (l0.length : Int)
        ·
         rw [if_pos c8] at H
         have c8b0 : decide ((ji6) < (l0.length : Int)) = true := decide_eq_true c8
         clear c8
         by_cases c9 : (rd l0 x4_1) = (rd l0 (ji6))
         ·
          rw [if_pos c9] at H
          have c9b0 : ((rd l0 x4_1) == (rd l0 (ji6))) = true := beq_iff_eq.mpr c9
          have c9b1 : ((rd l0 x4_1) != (rd l0 (ji6))) = false := bne_eq_false_iff_eq.mpr c9
          clear c9
          have H' := Aside0.mk H
          clear H
          have p448 : 0 ≤ (x4_1 : Int) := of_decide_eq_true (by first | (with_reducible assumption) | assumption)
          have q448 : x4_1 < (l0.length : Int) := of_decide_eq_true (by first | (with_reducible assumption) | assumption)
          obtain ⟨ad448, e448, hx448_0⟩ := Kd.at_int HR0.out x4_1 p448 q448
          cases e448
          replace p448 := eq_true p448
          replace q448 := eq_true q448
          have p449 : 0 ≤ ((ji6) : Int) := of_decide_eq_true (by first | (with_reducible assumption) | assumption)
          have q449 : (ji6) < (l0.length : Int) := of_decide_eq_true (by first | (with_reducible assumption) | assumption)
          obtain ⟨ad449, e449, hx449_0⟩ := Kd.at_int HR0.out (ji6) p449 q449
          obtain rfl : ad448 = ad449 := (by injection e449)
          replace p449 := eq_true p449
          replace q449 := eq_true q449
          go_wp2
          repeat (go_quiet (fail); try go_wp2)
          go_roundg k1
          case measure => have := HK1.out; omega
          case rel => exact ⟨(wrap64 (x4_1 + 1)), (by first | rfl | (simp; done) | (simp [*]; done)), H', ⟨by have := HK1.out; omega⟩, by repeat (first | exact Drawn0.refl _ | apply Drawn0.step)⟩
         ·
          rw [if_neg c9] at H
          have c9b0 : ((rd l0 x4_1) == (rd l0 (ji6))) = false := beq_eq_false_iff_ne.mpr c9
          have c9b1 : ((rd l0 x4_1) != (rd l0 (ji6))) = true := bne_iff_ne.mpr c9
          obtain rfl := Option.some.inj H
          have p448 : 0 ≤ (x4_1 : Int) := of_decide_eq_true (by first | (with_reducible assumption) | assumption)
          have q448 : x4_1 < (l0.length : Int) := of_decide_eq_true (by first | (with_reducible assumption) | assumption)
          obtain ⟨ad448, e448, hx448_0⟩ := Kd.at_int HR0.out x4_1 p448 q448
          cases e448
          replace p448 := eq_true p448
          replace q448 := eq_true q448
          have p449 : 0 ≤ ((ji6) : Int) := of_decide_eq_true (by first | (with_reducible assumption) | assumption)
          have q449 : (ji6) < (l0.length : Int) := of_decide_eq_true (by first | (with_reducible assumption) | assumption)
          obtain ⟨ad449, e449, hx449_0⟩ := Kd.at_int HR0.out (ji6) p449 q449
          obtain rfl : ad448 = ad449 := (by injection e449)
          replace p449 := eq_true p449
          replace q449 := eq_true q449
          go_wp2
          repeat (go_quiet (fail); try go_wp2)
          go_ret
          exact ⟨by first | rfl | (simp; done) | (simp only [← hji6] <;> (first | rfl | simp)) | (simp [*]; done), by repeat (first | exact Drawn0.refl _ | apply Drawn0.step)⟩
        ·
         rw [if_neg c8] at H
         exact absurd H (by simp)
       ·
        rw [if_neg c7] at H
        exact absurd H (by simp)
      ·
       rw [if_neg c5] at H
       exact absurd H (by simp)
     ·
      rw [if_neg c4] at H
      exact absurd H (by simp)
    ·
     rw [if_neg c3] at H
     have c3b0 : decide (x4_1 < (l0.length : Int)) = false := decide_eq_false c3
     clear c3
     obtain rfl := Option.some.inj H
     go_wp2
     repeat (go_quiet (fail); try go_wp2)
     go_ret
     exact ⟨by first | rfl | (simp; done) | (simp [*]; done), by repeat (first | exact Drawn0.refl _ | apply Drawn0.step)⟩

/-! ### magnetoref05_Add: function 41 -/
def magnetoref05_Add.l0 : Nat → List Int → List Int → Int → Option (List Int)
 | 0, _, _, _ => none
 | k + 1, x0, x3, x4 => if x4 < (x0.length : Int) then (if 0 ≤ x4 then (if x3.length < 17592186044416 then ((some (x3 ++ [rd x0 x4] : List Int)).bind fun y455 => ((magnetoref05_Five.f k y455).bind fun t458 => (if t458 = true then (if y455.length < 17592186044416 then (magnetoref05_Add.l0 k x0 (y455 ++ [wrap64 (1 - (rd x0 x4))]) (wrap64 (x4 + 1))) else (none)) else (magnetoref05_Add.l0 k x0 y455 (wrap64 (x4 + 1)))))) else (none)) else (none)) else (some x3)
def magnetoref05_Add.f (k : Nat) (l0 : List Int) : Option (List Int) := (some (([] : List Int) : List Int)).bind fun y450 => ((magnetoref01_Check.f k l0).bind fun t453 => (if t453 ≥ 0 then (some y450) else (magnetoref05_Add.l0 k l0 y450 0)))
theorem magnetoref05_Add.mono_l : ∀ k, (∀ y0 y1 y2, LeO (magnetoref05_Add.l0 k y0 y1 y2) (magnetoref05_Add.l0 (k + 1) y0 y1 y2))
 | 0 => fun _ _ _ r h => by simp [magnetoref05_Add.l0] at h
 | k + 1 => by
  have ih0 := magnetoref05_Add.mono_l k
  ·
   intro y0 y1 y2
   unfold magnetoref05_Add.l0
   repeat' first
   | (with_reducible exact ih0 _ _ _)
   | (with_reducible exact magnetoref01_Check.mono _ _)
   | (with_reducible exact magnetoref05_Five.mono _ _)
   | (with_reducible exact LeO.refl _)
   | (with_reducible exact LeO.none _)
   | (with_reducible refine LeO.ite ?_ ?_)
   | (with_reducible refine LeO.bind ?_ (fun _ => ?_))
   | exact ih0 _ _ _
   | exact magnetoref01_Check.mono _ _
   | exact magnetoref05_Five.mono _ _
   | exact LeO.none _
   | refine LeO.ite ?_ ?_
   | refine LeO.bind ?_ (fun _ => ?_)
theorem magnetoref05_Add.mono : ∀ a0 k, LeO (magnetoref05_Add.f k a0) (magnetoref05_Add.f (k + 1) a0) := by
 intro a0 k
 have ih0 := magnetoref05_Add.mono_l k
 unfold magnetoref05_Add.f
 repeat' first
   | (with_reducible exact ih0 _ _ _)
   | (with_reducible exact magnetoref01_Check.mono _ _)
   | (with_reducible exact magnetoref05_Five.mono _ _)
   | (with_reducible exact LeO.refl _)
   | (with_reducible exact LeO.none _)
   | (with_reducible refine LeO.ite ?_ ?_)
   | (with_reducible refine LeO.bind ?_ (fun _ => ?_))
   | exact ih0 _ _ _
   | exact magnetoref01_Check.mono _ _
   | exact magnetoref05_Five.mono _ _
   | exact LeO.none _
   | refine LeO.ite ?_ ?_
   | refine LeO.bind ?_ (fun _ => ?_)
set_option maxHeartbeats 8000000 in
set_option maxRecDepth 100000 in
theorem magnetoref05_Add.calls (k : Nat) (A0 : Option Addr) (c0 : Nat) (l0 : List Int) (r : List Int) (w : World) (hr0 : Kd.C (Kd.int .i64) w A0 l0.length l0) (hc0 : l0.length ≤ c0) (h : magnetoref05_Add.f k l0 = some r) :
  Calls Try.prog 41 #[.slice A0 l0.length c0] w fun e w' => ∃ v0_ : Value, e = .returned (v0_) ∧ Kd.R (Kd.int .i64) 3 w' w.heap.size (fun _ => True) v0_ r ∧ Below w.heap.size w w' := by
 have HR0 := Aside0.mk hr0
 have HC0 := Aside0.mk hc0
 clear hr0 hc0
 have HB := Aside0.mk (Below.refl w.heap.size w)
 have H : ((some (([] : List Int) : List Int)).bind fun y450 => ((magnetoref01_Check.f k l0).bind fun t453 => (if t453 ≥ 0 then (some y450) else (magnetoref05_Add.l0 k l0 y450 0)))) = some r := h
 clear h
 obtain ⟨y450, hy450⟩ : ∃ y_ : List Int, y_ = (([] : List Int)) := ⟨_, rfl⟩
 replace H : ((magnetoref01_Check.f k l0).bind fun t453 => (if t453 ≥ 0 then (some y450) else (magnetoref05_Add.l0 k l0 y450 0))) = some r := by first | (rw [hy450]; with_reducible exact H) | (have H2_ := (Option.bind_some _ _).symm.trans H; rw [hy450]; with_reducible exact H2_) | (have H2_ := (Option.bind_some _ _).symm.trans H; with_reducible exact H2_) | with_reducible exact H | (rw [hy450]; exact H) | exact H
 have Ny450 := Aside0.mk hy450
 clear hy450
 replace H := Option.bind_eq_some_iff.mp H
 obtain ⟨t453, A20, H⟩ := H
 replace H : (if t453 ≥ 0 then (some y450) else (magnetoref05_Add.l0 k l0 y450 0)) = some r := H
 have A2 := Aside0.mk A20
 clear A20
 by_cases c3 : t453 ≥ 0
 ·
  rw [if_pos c3] at H
  have c3b0 : decide (0 ≤ t453) = true := decide_eq_true c3
  clear c3
  obtain rfl := Option.some.inj H
  go_enter Try.func41, Try.ntmps41
  go_wp2_with (first | ((with_reducible refine gate_dst (N := 5) rfl ?_); refine Kd.R_lit (Kd.int .i64) _ 3 ?hg (N := 5) ?hd (xs := ([] : List Int)) (inner := []) (ok := fun _ => True) (okp := fun _ => True) ?hr ?hp (fun _ hk => hk) trivial (Below.refl _ _) (Nat.le_refl _) (by simp) ?_; (case hd => rfl); (case hg => rfl); (case hr => first | (go_simp; done) | (go_simp; rfl)); (case hp => exact (Reps.none _ _)); intro v451 w4 ho5 hb hg_ hnew_; clear hg_ hnew_; (first | rw [← Ny450.out] at ho5 | (simp only [Int.reduceToNat] at ho5; rw [← Ny450.out] at ho5)); have n0_ := Aside0.mk (Kd.R_lower ho5 (below_size (by repeat (first | (with_reducible first | exact HB.out | apply below_alloc | apply pw_below_drewN | apply below_drew1) | exact HB.out)))); have n1_ := Aside0.mk (below_step (by repeat (first | (with_reducible first | exact HB.out | apply below_alloc | apply pw_below_drewN | apply below_drew1) | exact HB.out)) hb); clear HB; have HO452 := n0_; have HB := n1_; clear n0_ n1_; clear hb ho5) | ((with_reducible refine gate_callee (f := 30) rfl ?_); refine goesL_ (some 7) rfl rfl Try.func30 (by kernel_rfl) rfl #[.slice A0 l0.length c0] rfl (by (try simp only [List.map_toArray, List.map_cons, List.map_nil]); first | done | rfl | (simp only [List.length_drop, List.length_take]; rfl)) ?_; (with_reducible refine (magnetoref01_Check.calls k _ _ l0 t453 _ ?side1 ?side2 A2.out).mono ?_); (case side1 => repeat (first | exact (Kd.C_below HR0.out HB.out) | (with_reducible refine Kd.C_alloc ?_ _) | (with_reducible refine Kd.C_drewN ?_ _) | (with_reducible refine Kd.C_drew ?_))); (case side2 => exact HC0.out); rintro e w' ⟨rfl, ⟨nd, rfl⟩⟩; refine ⟨_, rfl, ?_⟩))
  go_ret
  exact ⟨_, by first | rfl | (simp [errW_none, errW_some] <;> rfl) | (simp [*, errW_none, errW_some] <;> rfl), by (with_reducible repeat (first | apply Kd.R_alloc | apply Kd.R_drewN | apply Kd.R_drew)); exact HO452.out, by repeat (first | (with_reducible first | exact HB.out | apply below_alloc | apply pw_below_drewN | apply below_drew1) | exact HB.out)⟩
 ·
  rw [if_neg c3] at H
  have c3b0 : decide (0 ≤ t453) = false := decide_eq_false c3
  clear c3
  have H' := Aside0.mk H
  clear H
  go_enter Try.func41, Try.ntmps41
  go_wp2_with (first | ((with_reducible refine gate_dst (N := 5) rfl ?_); refine Kd.R_lit (Kd.int .i64) _ 3 ?hg (N := 5) ?hd (xs := ([] : List Int)) (inner := []) (ok := fun _ => True) (okp := fun _ => True) ?hr ?hp (fun _ hk => hk) trivial (Below.refl _ _) (Nat.le_refl _) (by simp) ?_; (case hd => rfl); (case hg => rfl); (case hr => first | (go_simp; done) | (go_simp; rfl)); (case hp => exact (Reps.none _ _)); intro v451 w6 ho7 hb hg_ hnew_; clear hg_ hnew_; (first | rw [← Ny450.out] at ho7 | (simp only [Int.reduceToNat] at ho7; rw [← Ny450.out] at ho7)); have n0_ := Aside0.mk (Kd.R_lower ho7 (below_size (by repeat (first | (with_reducible first | exact HB.out | apply below_alloc | apply pw_below_drewN | apply below_drew1) | exact HB.out)))); have n1_ := Aside0.mk (below_step (by repeat (first | (with_reducible first | exact HB.out | apply below_alloc | apply pw_below_drewN | apply below_drew1) | exact HB.out)) hb); clear HB; have HO452 := n0_; have HB := n1_; clear n0_ n1_; clear hb ho7) | ((with_reducible refine gate_callee (f := 30) rfl ?_); refine goesL_ (some 7) rfl rfl Try.func30 (by kernel_rfl) rfl #[.slice A0 l0.length c0] rfl (by (try simp only [List.map_toArray, List.map_cons, List.map_nil]); first | done | rfl | (simp only [List.length_drop, List.length_take]; rfl)) ?_; (with_reducible refine (magnetoref01_Check.calls k _ _ l0 t453 _ ?side1 ?side2 A2.out).mono ?_); (case side1 => repeat (first | exact (Kd.C_below HR0.out HB.out) | (with_reducible refine Kd.C_alloc ?_ _) | (with_reducible refine Kd.C_drewN ?_ _) | (with_reducible refine Kd.C_drew ?_))); (case side2 => exact HC0.out); rintro e w' ⟨rfl, ⟨nd, rfl⟩⟩; refine ⟨_, rfl, ?_⟩))
  go_loopg [3, 4] k (fun kq v3 v4 w' => ∃ (x3_1 : List Int) (x4_1 : Int), v4 = .int .i64 x4_1 ∧ Aside0 (magnetoref05_Add.l0 kq l0 x3_1 x4_1 = some r) ∧ Aside0 (kq ≤ k) ∧ Aside0 (Kd.R (Kd.int .i64) 3 w' w.heap.size (fun _ => True) v3 x3_1) ∧ Aside0 (Below w.heap.size w w'))
  case atStart => exact ⟨(y450), (0), (by first | rfl | (simp; done) | (simp [*]; done)), H', ⟨Nat.le_refl _⟩, ⟨by (with_reducible repeat (first | apply Kd.R_alloc | apply Kd.R_drewN | apply Kd.R_drew)); exact HO452.out⟩, ⟨by repeat (first | (with_reducible first | exact HB.out | apply below_alloc | apply pw_below_drewN | apply below_drew1) | exact HB.out)⟩⟩
  case round =>
   clear H'
   try clear p2
   try clear c3
   try clear c3b0
   try clear c4
   obtain ⟨x3_1, x4_1, rfl, HA, HK1, HO_3, HB⟩ := hrel
   cases gk with
   | zero => exact absurd HA.out (by simp [magnetoref05_Add.l0])
   | succ k1 =>
    have H := HA.out
    clear HA
    simp only [magnetoref05_Add.l0] at H
    by_cases c8 : x4_1 < (l0.length : Int)
    ·
     rw [if_pos c8] at H
     have c8b0 : decide (x4_1 < (l0.length : Int)) = true := decide_eq_true c8
     clear c8
     by_cases c9 : 0 ≤ x4_1
     ·
      rw [if_pos c9] at H
      have c9b0 : decide (0 ≤ x4_1) = true := decide_eq_true c9
      clear c9
      by_cases c10 : x3_1.length < 17592186044416
      ·
       rw [if_pos c10] at H
       have LMc10 := Aside0.mk c10
       clear c10
       obtain ⟨y455, hy455⟩ : ∃ y_ : List Int, y_ = (x3_1 ++ [rd l0 x4_1]) := ⟨_, rfl⟩
       replace H : ((magnetoref05_Five.f k1 y455).bind fun t458 => (if t458 = true then (if y455.length < 17592186044416 then (magnetoref05_Add.l0 k1 l0 (y455 ++ [wrap64 (1 - (rd l0 x4_1))]) (wrap64 (x4_1 + 1))) else (none)) else (magnetoref05_Add.l0 k1 l0 y455 (wrap64 (x4_1 + 1))))) = some r := by first | (rw [hy455]; with_reducible exact H) | (have H2_ := (Option.bind_some _ _).symm.trans H; rw [hy455]; with_reducible exact H2_) | (have H2_ := (Option.bind_some _ _).symm.trans H; with_reducible exact H2_) | with_reducible exact H | (rw [hy455]; exact H) | exact H
       have Ny455 := Aside0.mk hy455
       clear hy455
       replace H := Option.bind_eq_some_iff.mp H
       obtain ⟨t458, A110, H⟩ := H
       replace H : (if t458 = true then (if y455.length < 17592186044416 then (magnetoref05_Add.l0 k1 l0 (y455 ++ [wrap64 (1 - (rd l0 x4_1))]) (wrap64 (x4_1 + 1))) else (none)) else (magnetoref05_Add.l0 k1 l0 y455 (wrap64 (x4_1 + 1)))) = some r := H
       have A11 := Aside0.mk A110
       clear A110
       by_cases c12 : t458 = true
       ·
        subst c12
        have H1 : (if y455.length < 17592186044416 then (magnetoref05_Add.l0 k1 l0 (y455 ++ [wrap64 (1 - (rd l0 x4_1))]) (wrap64 (x4_1 + 1))) else (none)) = some r := by rw [if_pos rfl] at H; exact H
        clear H
        have H := H1
        clear H1
        by_cases c13 : y455.length < 17592186044416
        ·
         rw [if_pos c13] at H
         have LMc13 := Aside0.mk c13
         clear c13
         obtain ⟨y460, hy460⟩ : ∃ y_ : List Int, y_ = (y455 ++ [wrap64 (1 - (rd l0 x4_1))]) := ⟨_, rfl⟩
         replace H : (magnetoref05_Add.l0 k1 l0 y460 (wrap64 (x4_1 + 1))) = some r := by first | (rw [hy460]; with_reducible exact H) | (have H2_ := (Option.bind_some _ _).symm.trans H; rw [hy460]; with_reducible exact H2_) | (have H2_ := (Option.bind_some _ _).symm.trans H; with_reducible exact H2_) | with_reducible exact H | (rw [hy460]; exact H) | exact H
         have Ny460 := Aside0.mk hy460
         clear hy460
         have H' := Aside0.mk H
         clear H
         have p454 : 0 ≤ (x4_1 : Int) := of_decide_eq_true (by first | (with_reducible assumption) | assumption)
         have q454 : x4_1 < (l0.length : Int) := of_decide_eq_true (by first | (with_reducible assumption) | assumption)
         obtain ⟨ad454, e454, hx454_0⟩ := Kd.at_int HR0.out x4_1 p454 q454
         cases e454
         replace hx454_0 := (HB.out.cell (World.block_lt_of_cell? w _ hx454_0)).trans hx454_0
         replace p454 := eq_true p454
         replace q454 := eq_true q454
         go_wp2_with (first | ((with_reducible refine gate_builtin (b := .append) (xs := #[.tmp 16, .tmp 21]) rfl ?_); at_builtin; refine Kd.R_append (Kd.int .i64) (w0 := w) w.heap.size rfl (.tmp 16) (.tmp 21) 22 3 (.int .i64 0) 8 rfl Try.underlying22 info3 rfl (by decide) (by omega) u3 x3_1 (rd l0 x4_1) [.int .i64 (rd l0 x4_1)] (fun _ => True) (fun _ => False) rfl rfl ?aP (fun _ hk => hk.elim) ?aF ?aO ?aB ?aS ?aL ?_; (case aP => exact rfl); (case aB => exact (by repeat (first | (with_reducible first | exact HB.out | apply below_alloc | apply pw_below_drewN | apply below_drew1) | exact HB.out))); (case aF => exact (fun _ _ => trivial)); (case aO => exact (by (with_reducible repeat (first | apply Kd.R_alloc | apply Kd.R_drewN | apply Kd.R_drew)); exact HO_3.out)); (case aS => exact (below_size (by repeat (first | (with_reducible first | exact HB.out | apply below_alloc | apply pw_below_drewN | apply below_drew1) | exact HB.out)))); (case aL => have := LMc10.out; omega); intro v456 w14 ho hb hg hat; rw [← Ny455.out] at ho; have n0_ := Aside0.mk (hb); have n1_ := Aside0.mk (ho); clear HB; clear HO_3; have HB := n0_; have HO457 := n1_; clear n0_ n1_; clear ho hb hg hat; obtain ⟨Ao15, co15, eo15⟩ := Kd.R_slice HO457.out; subst eo15) | ((with_reducible refine gate_callee (f := 54) rfl ?_); refine goesL_ (some 24) rfl rfl Try.func54 (by kernel_rfl) rfl #[.slice Ao15 y455.length co15] rfl (by (try simp only [List.map_toArray, List.map_cons, List.map_nil]); first | done | rfl | (simp only [List.length_drop, List.length_take]; rfl)) ?_; (with_reducible refine (magnetoref05_Five.calls k1 _ _ y455 true _ ?side1 ?side2 A11.out).mono ?_); (case side1 => repeat (first | exact (Kd.R_reads' HO457.out).2.2 | (with_reducible refine Kd.C_alloc ?_ _) | (with_reducible refine Kd.C_drewN ?_ _) | (with_reducible refine Kd.C_drew ?_))); (case side2 => exact (Kd.R_reads' HO457.out).2.1); rintro e w' ⟨rfl, ⟨nd, rfl⟩⟩; refine ⟨_, rfl, ?_⟩; have p459 : 0 ≤ (x4_1 : Int) := of_decide_eq_true (by first | (with_reducible assumption) | assumption); have q459 : x4_1 < (l0.length : Int) := of_decide_eq_true (by first | (with_reducible assumption) | assumption); obtain ⟨ad459, e459, hx459_0⟩ := Kd.at_int HR0.out x4_1 p459 q459; obtain rfl : ad454 = ad459 := (by injection e459); replace hx459_0 := (HB.out.cell (World.block_lt_of_cell? w _ hx459_0)).trans hx459_0; replace p459 := eq_true p459; replace q459 := eq_true q459) | ((with_reducible refine gate_builtin (b := .append) (xs := #[.tmp 25, .tmp 31]) rfl ?_); at_builtin; refine Kd.R_append (Kd.int .i64) (w0 := w) w.heap.size rfl (.tmp 25) (.tmp 31) 22 3 (.int .i64 0) 8 rfl Try.underlying22 info3 rfl (by decide) (by omega) (.slice Ao15 y455.length co15) y455 (wrap64 (1 - (rd l0 x4_1))) [.int .i64 (wrap64 (1 - (rd l0 x4_1)))] (fun _ => True) (fun _ => False) rfl rfl ?aP (fun _ hk => hk.elim) ?aF ?aO ?aB ?aS ?aL ?_; (case aP => exact rfl); (case aB => exact (by repeat (first | (with_reducible first | exact HB.out | apply below_alloc | apply pw_below_drewN | apply below_drew1) | exact HB.out))); (case aF => exact (fun _ _ => trivial)); (case aO => exact (by (with_reducible repeat (first | apply Kd.R_alloc | apply Kd.R_drewN | apply Kd.R_drew)); exact HO457.out)); (case aS => exact (below_size (by repeat (first | (with_reducible first | exact HB.out | apply below_alloc | apply pw_below_drewN | apply below_drew1) | exact HB.out)))); (case aL => have := LMc13.out; omega); intro v461 w16 ho hb hg hat; rw [← Ny460.out] at ho; have n0_ := Aside0.mk (hb); have n1_ := Aside0.mk (ho); clear HB; clear HO457; have HB := n0_; have HO462 := n1_; clear n0_ n1_; clear ho hb hg hat))
         go_roundg k1
         case measure => have := HK1.out; omega
         case rel => exact ⟨(y460), (wrap64 (x4_1 + 1)), (by first | rfl | (simp; done) | (simp [*]; done)), H', ⟨by have := HK1.out; omega⟩, ⟨by (with_reducible repeat (first | apply Kd.R_alloc | apply Kd.R_drewN | apply Kd.R_drew)); exact HO462.out⟩, ⟨by repeat (first | (with_reducible first | exact HB.out | apply below_alloc | apply pw_below_drewN | apply below_drew1) | exact HB.out)⟩⟩
        ·
         rw [if_neg c13] at H
         exact absurd H (by simp)
       ·
        replace c12 := Bool.eq_false_iff.mpr c12
        subst c12
        have H1 : (magnetoref05_Add.l0 k1 l0 y455 (wrap64 (x4_1 + 1))) = some r := by rw [if_neg (show ¬ (false = true) by decide)] at H; exact H
        clear H
        have H := H1
        clear H1
        have H' := Aside0.mk H
        clear H
        have p454 : 0 ≤ (x4_1 : Int) := of_decide_eq_true (by first | (with_reducible assumption) | assumption)
        have q454 : x4_1 < (l0.length : Int) := of_decide_eq_true (by first | (with_reducible assumption) | assumption)
        obtain ⟨ad454, e454, hx454_0⟩ := Kd.at_int HR0.out x4_1 p454 q454
        cases e454
        replace hx454_0 := (HB.out.cell (World.block_lt_of_cell? w _ hx454_0)).trans hx454_0
        replace p454 := eq_true p454
        replace q454 := eq_true q454
        go_wp2_with (first | ((with_reducible refine gate_builtin (b := .append) (xs := #[.tmp 16, .tmp 21]) rfl ?_); at_builtin; refine Kd.R_append (Kd.int .i64) (w0 := w) w.heap.size rfl (.tmp 16) (.tmp 21) 22 3 (.int .i64 0) 8 rfl Try.underlying22 info3 rfl (by decide) (by omega) u3 x3_1 (rd l0 x4_1) [.int .i64 (rd l0 x4_1)] (fun _ => True) (fun _ => False) rfl rfl ?aP (fun _ hk => hk.elim) ?aF ?aO ?aB ?aS ?aL ?_; (case aP => exact rfl); (case aB => exact (by repeat (first | (with_reducible first | exact HB.out | apply below_alloc | apply pw_below_drewN | apply below_drew1) | exact HB.out))); (case aF => exact (fun _ _ => trivial)); (case aO => exact (by (with_reducible repeat (first | apply Kd.R_alloc | apply Kd.R_drewN | apply Kd.R_drew)); exact HO_3.out)); (case aS => exact (below_size (by repeat (first | (with_reducible first | exact HB.out | apply below_alloc | apply pw_below_drewN | apply below_drew1) | exact HB.out)))); (case aL => have := LMc10.out; omega); intro v456 w17 ho hb hg hat; rw [← Ny455.out] at ho; have n0_ := Aside0.mk (hb); have n1_ := Aside0.mk (ho); clear HB; clear HO_3; have HB := n0_; have HO457 := n1_; clear n0_ n1_; clear ho hb hg hat; obtain ⟨Ao18, co18, eo18⟩ := Kd.R_slice HO457.out; subst eo18) | ((with_reducible refine gate_callee (f := 54) rfl ?_); refine goesL_ (some 24) rfl rfl Try.func54 (by kernel_rfl) rfl #[.slice Ao18 y455.length co18] rfl (by (try simp only [List.map_toArray, List.map_cons, List.map_nil]); first | done | rfl | (simp only [List.length_drop, List.length_take]; rfl)) ?_; (with_reducible refine (magnetoref05_Five.calls k1 _ _ y455 false _ ?side1 ?side2 A11.out).mono ?_); (case side1 => repeat (first | exact (Kd.R_reads' HO457.out).2.2 | (with_reducible refine Kd.C_alloc ?_ _) | (with_reducible refine Kd.C_drewN ?_ _) | (with_reducible refine Kd.C_drew ?_))); (case side2 => exact (Kd.R_reads' HO457.out).2.1); rintro e w' ⟨rfl, ⟨nd, rfl⟩⟩; refine ⟨_, rfl, ?_⟩))
        go_roundg k1
        case measure => have := HK1.out; omega
        case rel => exact ⟨(y455), (wrap64 (x4_1 + 1)), (by first | rfl | (simp; done) | (simp [*]; done)), H', ⟨by have := HK1.out; omega⟩, ⟨by (with_reducible repeat (first | apply Kd.R_alloc | apply Kd.R_drewN | apply Kd.R_drew)); exact HO457.out⟩, ⟨by repeat (first | (with_reducible first | exact HB.out | apply below_alloc | apply pw_below_drewN | apply below_drew1) | exact HB.out)⟩⟩
      ·
       rw [if_neg c10] at H
       exact absurd H (by simp)
     ·
      rw [if_neg c9] at H
      exact absurd H (by simp)
    ·
     rw [if_neg c8] at H
     have c8b0 : decide (x4_1 < (l0.length : Int)) = false := decide_eq_false c8
     clear c8
     obtain rfl := Option.some.inj H
     go_wp2
     go_ret
     exact ⟨_, by first | rfl | (simp [errW_none, errW_some] <;> rfl) | (simp [*, errW_none, errW_some] <;> rfl), by (with_reducible repeat (first | apply Kd.R_alloc | apply Kd.R_drewN | apply Kd.R_drew)); exact HO_3.out, by repeat (first | (with_reducible first | exact HB.out | apply below_alloc | apply pw_below_drewN | apply below_drew1) | exact HB.out)⟩

end Go.Proofs.Ytipflkbpjnacnaa.PA
