-- PRINTED by print.py (a twelfth state) out of the translation. Not trusted: Lean checks it.
import Derived.Test.YtclmogjmmcjppaaPAx0
import Derived.Test.YtclmogjmmcjppaaPAx11
import Derived.Test.YtclmogjmmcjppaaPAx12
import Derived.Test.YtclmogjmmcjppaaPAx15
namespace Go.Proofs.Ytclmogjmmcjppaa.PA
open Go.RowKit Go.Proofs.YtclmogjmmcjppaaW.PrintWords Go.Proofs.YtclmogjmmcjppaaW.PrintLast Go.Proofs.YtclmogjmmcjppaaW.PrintMore
attribute [local go_sem] max2_int min2_int max_two min_two max_three min_three max_four min_four   -- for this text's walks alone
set_option linter.unusedVariables false
set_option linter.unusedSimpArgs false

/-! ### magnetolaw02_Crc15Zeros: function 14 -/
mutual
def magnetolaw02_Crc15Zeros.j0 : Nat → List Int → Int → Bool → Int → Int → Option (Bool)
  | 0, _, _, _, _, _ => none
  | k + 1, x0, x1, x31, x550000, x550001 => if x31 = true then ((magnetolaw02_awake.f).bind fun t550 => (some t550)) else (magnetolaw02_Crc15Zeros.l0 k x0 x1 (Int.tmod (wrap64 ((Int.tmod x550000 32768) + 32768)) 32768) (Int.tmod (wrap64 ((Int.tmod x550001 32768) + 32768)) 32768) 0)
def magnetolaw02_Crc15Zeros.l0 : Nat → List Int → Int → Int → Int → Int → Option (Bool)
  | 0, _, _, _, _, _ => none
  | k + 1, x0, x1, x7, x8, x9 => if x9 < 2 then ((crc15_Step.f x7 x9).bind fun bt551 => ((crc15_Step.f x8 x9).bind fun bt553 => ((crc15_Step.f x7 (wrap64 (1 - x9))).bind fun bt555 => (if bt551.2 = 0 then (if bt553.2 = 0 then (if bt555.2 = 0 then (if ((bt551.1 == bt553.1) != (x7 == x8)) = true then (none) else (if (Go.bits .xor .i64 bt551.1 bt555.1) = 17817 then (magnetolaw02_Crc15Zeros.l0 k x0 x1 x7 x8 (wrap64 (x9 + 1))) else (none))) else (none)) else (none)) else (none))))) else (if 0 ≤ x1 then (if (x1 : Int).toNat ≤ 35184372088832 then ((some (List.replicate (x1 : Int).toNat 0 : List Int)).bind fun y557 => (if y557.length + x0.length < 17592186044416 then ((some (y557 ++ x0 : List Int)).bind fun y560 => ((crc15_Sum.f x0).bind fun bt563 => ((crc15_Sum.f y560).bind fun bt565 => (if bt563.1 = bt565.1 then (magnetolaw02_Crc15Zeros.j2 k x0 y560 (bt563.2 != bt565.2)) else (none))))) else (none))) else (none)) else (none))
def magnetolaw02_Crc15Zeros.j2 : Nat → List Int → List Int → Bool → Option (Bool)
  | 0, _, _, _ => none
  | k + 1, x0, x16, x112 => if x112 = true then (none) else (if (x0.length : Int) < 15 then ((magnetolaw02_awake.f).bind fun t567 => (some t567)) else ((crc15_Right.f k x0).bind fun t568 => ((crc15_Right.f k x16).bind fun t569 => (if (t568 == t569) = true then ((magnetolaw02_awake.f).bind fun t570 => (some t570)) else (none)))))
end
def magnetolaw02_Crc15Zeros.f (k : Nat) (l0 : List Int) (a1 : Int) (a2_0 : Int) (a2_1 : Int) : Option (Bool) := if (l0.length : Int) > 300 then (magnetolaw02_Crc15Zeros.j0 k l0 a1 true a2_0 a2_1) else (if a1 < 0 then (magnetolaw02_Crc15Zeros.j0 k l0 a1 true a2_0 a2_1) else (magnetolaw02_Crc15Zeros.j0 k l0 a1 (decide (a1 > 100)) a2_0 a2_1))
theorem magnetolaw02_Crc15Zeros.mono_l : ∀ k, (∀ y0 y1 y2 y3 y4, LeO (magnetolaw02_Crc15Zeros.j0 k y0 y1 y2 y3 y4) (magnetolaw02_Crc15Zeros.j0 (k + 1) y0 y1 y2 y3 y4)) ∧ (∀ y0 y1 y2 y3 y4, LeO (magnetolaw02_Crc15Zeros.l0 k y0 y1 y2 y3 y4) (magnetolaw02_Crc15Zeros.l0 (k + 1) y0 y1 y2 y3 y4)) ∧ (∀ y0 y1 y2, LeO (magnetolaw02_Crc15Zeros.j2 k y0 y1 y2) (magnetolaw02_Crc15Zeros.j2 (k + 1) y0 y1 y2))
  | 0 => ⟨fun _ _ _ _ _ r h => by simp [magnetolaw02_Crc15Zeros.j0] at h, fun _ _ _ _ _ r h => by simp [magnetolaw02_Crc15Zeros.l0] at h, fun _ _ _ r h => by simp [magnetolaw02_Crc15Zeros.j2] at h⟩
  | k + 1 => by
    obtain ⟨ih0, ih1, ih2⟩ := magnetolaw02_Crc15Zeros.mono_l k
    refine ⟨?_, ?_, ?_⟩
    · intro y0 y1 y2 y3 y4
      unfold magnetolaw02_Crc15Zeros.j0
      repeat' first
      | (with_reducible exact ih0 _ _ _ _ _)
      | (with_reducible exact ih1 _ _ _ _ _)
      | (with_reducible exact ih2 _ _ _)
      | (with_reducible exact crc15_Right.mono _ _)
      | (with_reducible exact LeO.refl _)
      | (with_reducible exact LeO.none _)
      | (with_reducible refine LeO.ite ?_ ?_)
      | (with_reducible refine LeO.bind ?_ (fun _ => ?_))
      | exact ih0 _ _ _ _ _
      | exact ih1 _ _ _ _ _
      | exact ih2 _ _ _
      | exact crc15_Right.mono _ _
      | exact LeO.none _
      | refine LeO.ite ?_ ?_
      | refine LeO.bind ?_ (fun _ => ?_)
    · intro y0 y1 y2 y3 y4
      unfold magnetolaw02_Crc15Zeros.l0
      repeat' first
      | (with_reducible exact ih0 _ _ _ _ _)
      | (with_reducible exact ih1 _ _ _ _ _)
      | (with_reducible exact ih2 _ _ _)
      | (with_reducible exact crc15_Right.mono _ _)
      | (with_reducible exact LeO.refl _)
      | (with_reducible exact LeO.none _)
      | (with_reducible refine LeO.ite ?_ ?_)
      | (with_reducible refine LeO.bind ?_ (fun _ => ?_))
      | exact ih0 _ _ _ _ _
      | exact ih1 _ _ _ _ _
      | exact ih2 _ _ _
      | exact crc15_Right.mono _ _
      | exact LeO.none _
      | refine LeO.ite ?_ ?_
      | refine LeO.bind ?_ (fun _ => ?_)
    · intro y0 y1 y2
      unfold magnetolaw02_Crc15Zeros.j2
      repeat' first
      | (with_reducible exact ih0 _ _ _ _ _)
      | (with_reducible exact ih1 _ _ _ _ _)
      | (with_reducible exact ih2 _ _ _)
      | (with_reducible exact crc15_Right.mono _ _)
      | (with_reducible exact LeO.refl _)
      | (with_reducible exact LeO.none _)
      | (with_reducible refine LeO.ite ?_ ?_)
      | (with_reducible refine LeO.bind ?_ (fun _ => ?_))
      | exact ih0 _ _ _ _ _
      | exact ih1 _ _ _ _ _
      | exact ih2 _ _ _
      | exact crc15_Right.mono _ _
      | exact LeO.none _
      | refine LeO.ite ?_ ?_
      | refine LeO.bind ?_ (fun _ => ?_)
theorem magnetolaw02_Crc15Zeros.mono : ∀ a0 a1 a2 a3 k, LeO (magnetolaw02_Crc15Zeros.f k a0 a1 a2 a3) (magnetolaw02_Crc15Zeros.f (k + 1) a0 a1 a2 a3) := by
  intro a0 a1 a2 a3 k
  obtain ⟨ih0, ih1, ih2⟩ := magnetolaw02_Crc15Zeros.mono_l k
  unfold magnetolaw02_Crc15Zeros.f
  repeat' first
      | (with_reducible exact ih0 _ _ _ _ _)
      | (with_reducible exact ih1 _ _ _ _ _)
      | (with_reducible exact ih2 _ _ _)
      | (with_reducible exact crc15_Right.mono _ _)
      | (with_reducible exact LeO.refl _)
      | (with_reducible exact LeO.none _)
      | (with_reducible refine LeO.ite ?_ ?_)
      | (with_reducible refine LeO.bind ?_ (fun _ => ?_))
      | exact ih0 _ _ _ _ _
      | exact ih1 _ _ _ _ _
      | exact ih2 _ _ _
      | exact crc15_Right.mono _ _
      | exact LeO.none _
      | refine LeO.ite ?_ ?_
      | refine LeO.bind ?_ (fun _ => ?_)
set_option maxHeartbeats 8000000 in
set_option maxRecDepth 100000 in
theorem magnetolaw02_Crc15Zeros.calls (k : Nat) (A0 : Option Addr) (c0 : Nat) (l0 : List Int) (a1 : Int) (a2_0 : Int) (a2_1 : Int) (r : Bool) (w : World) (hr0 : Kd.C (Kd.int .i64) w A0 l0.length l0) (hc0 : l0.length ≤ c0) (h : magnetolaw02_Crc15Zeros.f k l0 a1 a2_0 a2_1 = some r) :
    Calls Try.prog 14 #[.slice A0 l0.length c0, .int .i64 a1, .agg #[.int .i64 a2_0, .int .i64 a2_1]] w fun e w' => e = .returned (.bool r) ∧ Below w.heap.size w w' := by
  have hu57 := Try.underlying57
  have HR0 := Aside0.mk hr0
  have HC0 := Aside0.mk hc0
  clear hr0 hc0
  have HB := Aside0.mk (Below.refl w.heap.size w)
  have H : (if (l0.length : Int) > 300 then (magnetolaw02_Crc15Zeros.j0 k l0 a1 true a2_0 a2_1) else (if a1 < 0 then (magnetolaw02_Crc15Zeros.j0 k l0 a1 true a2_0 a2_1) else (magnetolaw02_Crc15Zeros.j0 k l0 a1 (decide (a1 > 100)) a2_0 a2_1))) = some r := h
  clear h
  have HC4 := Aside0.mk H
  clear H
  go_enter Try.func14, Try.ntmps14
  go_upto_region 1 with (first | ((with_reducible refine gate_dst (N := 5) rfl ?_); refine box_event ?hg (N := 5) ?hd (cs := #[.int .i64 a2_0, .int .i64 a2_1]) (t := 57) ?hr ?_; (case hd => rfl); (case hg => rfl); (case hr => first | (go_simp; done) | (go_simp; rfl)); intro gb549 hg w5 hbox hb; have n0_ := Aside0.mk (below_step (by repeat (first | (with_reducible first | exact HB.out | apply below_alloc | apply pw_below_drewN | apply below_drew1) | exact HB.out)) hb); have n1_ := Aside0.mk (hbox); have n2_ := Aside0.mk ((by rw [hg]; exact (below_size (by repeat (first | (with_reducible first | exact HB.out | apply below_alloc | apply pw_below_drewN | apply below_drew1) | exact HB.out))) : w.heap.size ≤ gb549)); have n3_ := Aside0.mk ((by rw [hg]; exact (below_size (by repeat (first | (with_reducible first | exact HB.out | apply below_alloc | apply pw_below_drewN | apply below_drew1) | exact HB.out))) : w.heap.size ≤ gb549)); clear HB; have HB := n0_; have BK549 := n1_; have GW549 := n2_; have GE549 := n3_; clear n0_ n1_ n2_ n3_; clear hb hbox hg))
  (try simp only [Act.put, List.setIfInBounds_toArray, List.set_cons_zero, List.set_cons_succ])
  go_cut [31] (fun v31 wc => ∃ (kq : Nat) (x31_3 : Bool), v31 = .bool x31_3 ∧ Aside0 (magnetolaw02_Crc15Zeros.j0 kq l0 a1 x31_3 a2_0 a2_1 = some r) ∧ Aside0 (kq ≤ k) ∧ Aside0 (wc.heap[gb549]? = some (.cells #[.int .i64 a2_0, .int .i64 a2_1] 57 (0, 0))) ∧ Aside0 (Below w.heap.size w wc))
  case first =>
    have H := HC4.out
    clear HC4
    by_cases c6 : (l0.length : Int) > 300
    · rw [if_pos c6] at H
      have c6b0 : decide (300 < (l0.length : Int)) = true := decide_eq_true c6
      have c6b1 : decide (300 < l0.length) = true := decide_eq_true (by omega)
      clear c6
      (first | rw [c6b0] | (simp only [i64_w, i32_w]; rw [c6b0]) | skip)
      have H' := Aside0.mk H
      clear H
      go_wp2
      go_meet
      case rel => exact ⟨_, (true), (by first | rfl | (simp; done) | (simp [*]; done)), H', ⟨by first | omega | exact Nat.le_refl _⟩, ⟨by (with_reducible repeat (first | refine blk_drewN ?_ _ | refine blk_drew ?_ | refine blk_alloc ?_ _)); exact BK549.out⟩, ⟨by repeat (first | (with_reducible first | exact HB.out | apply below_alloc | apply pw_below_drewN | apply below_drew1 | refine below_set ?_ GE549.out) | exact HB.out)⟩⟩
    · rw [if_neg c6] at H
      have c6b0 : decide (300 < (l0.length : Int)) = false := decide_eq_false c6
      have c6b1 : decide (300 < l0.length) = false := decide_eq_false (by omega)
      clear c6
      (first | rw [c6b0] | (simp only [i64_w, i32_w]; rw [c6b0]) | skip)
      by_cases c7 : a1 < 0
      · rw [if_pos c7] at H
        have c7b0 : decide (a1 < 0) = true := decide_eq_true c7
        clear c7
        have H' := Aside0.mk H
        clear H
        go_wp2
        go_meet
        case rel => exact ⟨_, (true), (by first | rfl | (simp; done) | (simp [*]; done)), H', ⟨by first | omega | exact Nat.le_refl _⟩, ⟨by (with_reducible repeat (first | refine blk_drewN ?_ _ | refine blk_drew ?_ | refine blk_alloc ?_ _)); exact BK549.out⟩, ⟨by repeat (first | (with_reducible first | exact HB.out | apply below_alloc | apply pw_below_drewN | apply below_drew1 | refine below_set ?_ GE549.out) | exact HB.out)⟩⟩
      · rw [if_neg c7] at H
        have c7b0 : decide (a1 < 0) = false := decide_eq_false c7
        clear c7
        have H' := Aside0.mk H
        clear H
        go_wp2
        go_meet
        case rel => exact ⟨_, (decide (a1 > 100)), (by first | rfl | (simp; done) | (simp [*]; done)), H', ⟨by first | omega | exact Nat.le_refl _⟩, ⟨by (with_reducible repeat (first | refine blk_drewN ?_ _ | refine blk_drew ?_ | refine blk_alloc ?_ _)); exact BK549.out⟩, ⟨by repeat (first | (with_reducible first | exact HB.out | apply below_alloc | apply pw_below_drewN | apply below_drew1 | refine below_set ?_ GE549.out) | exact HB.out)⟩⟩
  case rest =>
    clear HC4
    try clear c1
    try clear p2
    try clear c6
    try clear c6b0
    try clear c6b1
    try clear c7
    try clear c7b0
    obtain ⟨kq, x31_3, rfl, HA, HJ3, BK549, HB⟩ := hcut
    cases kq with
    | zero => exact absurd HA.out (by simp [magnetolaw02_Crc15Zeros.j0])
    | succ kj3 =>
      have H := HA.out
      clear HA
      simp only [magnetolaw02_Crc15Zeros.j0] at H
      by_cases c8 : x31_3 = true
      · subst c8
        have H1 : ((magnetolaw02_awake.f).bind fun t550 => (some t550)) = some r := by rw [if_pos rfl] at H; exact H
        clear H
        have H := H1
        clear H1
        replace H := Option.bind_eq_some_iff.mp H
        obtain ⟨t550, A90, H⟩ := H
        replace H : (some t550) = some r := H
        have A9 := Aside0.mk A90
        clear A90
        obtain rfl := Option.some.inj H
        go_wp2_with (first | ((with_reducible refine gate_callee (f := 35) rfl ?_); refine goesL_ (some 32) rfl rfl Try.func35 (by kernel_rfl) rfl #[] rfl (by (try simp only [List.map_toArray, List.map_cons, List.map_nil]); first | done | rfl | (simp only [List.length_drop, List.length_take]; rfl)) ?_; (with_reducible refine (magnetolaw02_awake.calls  t550 _ A9.out).mono ?_); rintro e w10 ⟨rfl, hb⟩; refine ⟨_, rfl, ?_⟩; have n0_ := Aside0.mk (blk_below (g := gb549) (o := .cells #[.int .i64 a2_0, .int .i64 a2_1] 57 (0, 0)) (by (with_reducible repeat (first | refine blk_drewN ?_ _ | refine blk_drew ?_ | refine blk_alloc ?_ _)); exact BK549.out) hb); have n1_ := Aside0.mk (below_step (by repeat (first | (with_reducible first | exact HB.out | apply below_alloc | apply pw_below_drewN | apply below_drew1 | refine below_set ?_ GE549.out) | exact HB.out)) hb); clear BK549; clear HB; have BK549 := n0_; have HB := n1_; clear n0_ n1_; (try clear hb); (try clear hb2); (try clear hk); (try clear hi)))
        go_ret
        exact ⟨by first | rfl | (simp [errW_none, errW_some] <;> rfl) | (simp [*, errW_none, errW_some] <;> rfl), by repeat (first | (with_reducible first | exact HB.out | apply below_alloc | apply pw_below_drewN | apply below_drew1 | refine below_set ?_ GE549.out) | exact HB.out)⟩
      · replace c8 := Bool.eq_false_iff.mpr c8
        subst c8
        have H1 : (magnetolaw02_Crc15Zeros.l0 kj3 l0 a1 (Int.tmod (wrap64 ((Int.tmod a2_0 32768) + 32768)) 32768) (Int.tmod (wrap64 ((Int.tmod a2_1 32768) + 32768)) 32768) 0) = some r := by rw [if_neg (show ¬ (false = true) by decide)] at H; exact H
        clear H
        have H := H1
        clear H1
        have H' := Aside0.mk H
        clear H
        have hcz11_0 : wc.cell? ⟨gb549, 0, none⟩ = some (.int .i64 a2_0) := (blk_cell BK549.out 0).trans rfl
        have hcz11_1 : wc.cell? ⟨gb549, 1, none⟩ = some (.int .i64 a2_1) := (blk_cell BK549.out 1).trans rfl
        have hfz11_0 := blk_frozen BK549.out 0
        have hfz11_1 := blk_frozen BK549.out 1
        go_wp2
        go_loopg [9] kj3 (fun kq v9 w' => ∃ (x9_2 : Int), v9 = .int .i64 x9_2 ∧ Aside0 (magnetolaw02_Crc15Zeros.l0 kq l0 a1 (Int.tmod (wrap64 ((Int.tmod a2_0 32768) + 32768)) 32768) (Int.tmod (wrap64 ((Int.tmod a2_1 32768) + 32768)) 32768) x9_2 = some r) ∧ Aside0 (kq ≤ kj3) ∧ Aside0 (w'.heap[gb549]? = some (.cells #[.int .i64 a2_0, .int .i64 a2_1] 57 (0, 0))) ∧ Aside0 (Below w.heap.size w w'))
        case atStart => exact ⟨(0), (by first | rfl | (simp; done) | (simp [*]; done)), H', ⟨Nat.le_refl _⟩, ⟨by (with_reducible repeat (first | refine blk_drewN ?_ _ | refine blk_drew ?_ | refine blk_alloc ?_ _)); exact BK549.out⟩, ⟨by repeat (first | (with_reducible first | exact HB.out | apply below_alloc | apply pw_below_drewN | apply below_drew1 | refine below_set ?_ GE549.out) | exact HB.out)⟩⟩
        case round =>
          clear H'
          try clear c1
          try clear p2
          try clear c3
          try clear c6
          try clear c6b0
          try clear c6b1
          try clear p6
          try clear c7
          try clear c7b0
          try clear c8
          try clear hcz11_0
          try clear hcz11_1
          try clear hfz11_0
          try clear hfz11_1
          try clear p2
          obtain ⟨x9_2, rfl, HA, HK2, BK549, HB⟩ := hrel
          cases gk with
          | zero => exact absurd HA.out (by simp [magnetolaw02_Crc15Zeros.l0])
          | succ k2 =>
            have H := HA.out
            clear HA
            simp only [magnetolaw02_Crc15Zeros.l0] at H
            by_cases c12 : x9_2 < 2
            · rw [if_pos c12] at H
              have c12b0 : decide (x9_2 < 2) = true := decide_eq_true c12
              clear c12
              replace H := Option.bind_eq_some_iff.mp H
              obtain ⟨⟨t551, t552⟩, A130, H⟩ := H
              replace H : ((crc15_Step.f (Int.tmod (wrap64 ((Int.tmod a2_1 32768) + 32768)) 32768) x9_2).bind fun bt553 => ((crc15_Step.f (Int.tmod (wrap64 ((Int.tmod a2_0 32768) + 32768)) 32768) (wrap64 (1 - x9_2))).bind fun bt555 => (if t552 = 0 then (if bt553.2 = 0 then (if bt555.2 = 0 then (if ((t551 == bt553.1) != ((Int.tmod (wrap64 ((Int.tmod a2_0 32768) + 32768)) 32768) == (Int.tmod (wrap64 ((Int.tmod a2_1 32768) + 32768)) 32768))) = true then (none) else (if (Go.bits .xor .i64 t551 bt555.1) = 17817 then (magnetolaw02_Crc15Zeros.l0 k2 l0 a1 (Int.tmod (wrap64 ((Int.tmod a2_0 32768) + 32768)) 32768) (Int.tmod (wrap64 ((Int.tmod a2_1 32768) + 32768)) 32768) (wrap64 (x9_2 + 1))) else (none))) else (none)) else (none)) else (none)))) = some r := H
              have A13 := Aside0.mk A130
              clear A130
              replace H := Option.bind_eq_some_iff.mp H
              obtain ⟨⟨t553, t554⟩, A140, H⟩ := H
              replace H : ((crc15_Step.f (Int.tmod (wrap64 ((Int.tmod a2_0 32768) + 32768)) 32768) (wrap64 (1 - x9_2))).bind fun bt555 => (if t552 = 0 then (if t554 = 0 then (if bt555.2 = 0 then (if ((t551 == t553) != ((Int.tmod (wrap64 ((Int.tmod a2_0 32768) + 32768)) 32768) == (Int.tmod (wrap64 ((Int.tmod a2_1 32768) + 32768)) 32768))) = true then (none) else (if (Go.bits .xor .i64 t551 bt555.1) = 17817 then (magnetolaw02_Crc15Zeros.l0 k2 l0 a1 (Int.tmod (wrap64 ((Int.tmod a2_0 32768) + 32768)) 32768) (Int.tmod (wrap64 ((Int.tmod a2_1 32768) + 32768)) 32768) (wrap64 (x9_2 + 1))) else (none))) else (none)) else (none)) else (none))) = some r := H
              have A14 := Aside0.mk A140
              clear A140
              replace H := Option.bind_eq_some_iff.mp H
              obtain ⟨⟨t555, t556⟩, A150, H⟩ := H
              replace H : (if t552 = 0 then (if t554 = 0 then (if t556 = 0 then (if ((t551 == t553) != ((Int.tmod (wrap64 ((Int.tmod a2_0 32768) + 32768)) 32768) == (Int.tmod (wrap64 ((Int.tmod a2_1 32768) + 32768)) 32768))) = true then (none) else (if (Go.bits .xor .i64 t551 t555) = 17817 then (magnetolaw02_Crc15Zeros.l0 k2 l0 a1 (Int.tmod (wrap64 ((Int.tmod a2_0 32768) + 32768)) 32768) (Int.tmod (wrap64 ((Int.tmod a2_1 32768) + 32768)) 32768) (wrap64 (x9_2 + 1))) else (none))) else (none)) else (none)) else (none)) = some r := H
              have A15 := Aside0.mk A150
              clear A150
              by_cases c16 : t552 = 0
              · rw [if_pos c16] at H
                have c16b0 : (t552 == 0) = true := beq_iff_eq.mpr c16
                have c16b1 : (t552 != 0) = false := bne_eq_false_iff_eq.mpr c16
                clear c16
                by_cases c17 : t554 = 0
                · rw [if_pos c17] at H
                  have c17b0 : (t554 == 0) = true := beq_iff_eq.mpr c17
                  have c17b1 : (t554 != 0) = false := bne_eq_false_iff_eq.mpr c17
                  clear c17
                  by_cases c18 : t556 = 0
                  · rw [if_pos c18] at H
                    have c18b0 : (t556 == 0) = true := beq_iff_eq.mpr c18
                    have c18b1 : (t556 != 0) = false := bne_eq_false_iff_eq.mpr c18
                    clear c18
                    by_cases c19 : ((t551 == t553) != ((Int.tmod (wrap64 ((Int.tmod a2_0 32768) + 32768)) 32768) == (Int.tmod (wrap64 ((Int.tmod a2_1 32768) + 32768)) 32768))) = true
                    · rw [if_pos c19] at H
                      exact absurd H (by simp)
                    · rw [if_neg c19] at H
                      have c19b0 : ((t551 == t553) != ((Int.tmod (wrap64 ((Int.tmod a2_0 32768) + 32768)) 32768) == (Int.tmod (wrap64 ((Int.tmod a2_1 32768) + 32768)) 32768))) = false := by simpa using c19
                      (try (have c19b1 : decide ((t551 == t553) = ((Int.tmod (wrap64 ((Int.tmod a2_0 32768) + 32768)) 32768) == (Int.tmod (wrap64 ((Int.tmod a2_1 32768) + 32768)) 32768))) = true := by simpa using c19))
                      (try (have c19b2 : ((t551 == t553) == ((Int.tmod (wrap64 ((Int.tmod a2_0 32768) + 32768)) 32768) == (Int.tmod (wrap64 ((Int.tmod a2_1 32768) + 32768)) 32768))) = true := by simpa using c19))
                      clear c19
                      by_cases c20 : (Go.bits .xor .i64 t551 t555) = 17817
                      · rw [if_pos c20] at H
                        have c20b0 : ((Go.bits .xor .i64 t551 t555) == 17817) = true := beq_iff_eq.mpr c20
                        have c20b1 : ((Go.bits .xor .i64 t551 t555) != 17817) = false := bne_eq_false_iff_eq.mpr c20
                        clear c20
                        have H' := Aside0.mk H
                        clear H
                        go_wp2_with (first | ((with_reducible refine gate_callee (f := 37) rfl ?_); refine goesL_ (some 50) rfl rfl Try.func37 (by kernel_rfl) rfl #[.int .i64 (Int.tmod (wrap64 ((Int.tmod a2_0 32768) + 32768)) 32768), .int .i64 x9_2] rfl (by (try simp only [List.map_toArray, List.map_cons, List.map_nil]); first | done | rfl | (simp only [List.length_drop, List.length_take]; rfl)) ?_; (with_reducible refine (crc15_Step.calls (Int.tmod (wrap64 ((Int.tmod a2_0 32768) + 32768)) 32768) x9_2 t551 t552 _ A13.out).mono ?_); rintro e w21 ⟨rfl, hb⟩; refine ⟨_, rfl, ?_⟩; have n0_ := Aside0.mk (blk_below (g := gb549) (o := .cells #[.int .i64 a2_0, .int .i64 a2_1] 57 (0, 0)) (by (with_reducible repeat (first | refine blk_drewN ?_ _ | refine blk_drew ?_ | refine blk_alloc ?_ _)); exact BK549.out) hb); have n1_ := Aside0.mk (below_step (by repeat (first | (with_reducible first | exact HB.out | apply below_alloc | apply pw_below_drewN | apply below_drew1 | refine below_set ?_ GE549.out) | exact HB.out)) hb); clear BK549; clear HB; have BK549 := n0_; have HB := n1_; clear n0_ n1_; (try clear hb); (try clear hb2); (try clear hk); (try clear hi)) | ((with_reducible refine gate_callee (f := 37) rfl ?_); refine goesL_ (some 56) rfl rfl Try.func37 (by kernel_rfl) rfl #[.int .i64 (Int.tmod (wrap64 ((Int.tmod a2_1 32768) + 32768)) 32768), .int .i64 x9_2] rfl (by (try simp only [List.map_toArray, List.map_cons, List.map_nil]); first | done | rfl | (simp only [List.length_drop, List.length_take]; rfl)) ?_; (with_reducible refine (crc15_Step.calls (Int.tmod (wrap64 ((Int.tmod a2_1 32768) + 32768)) 32768) x9_2 t553 t554 _ A14.out).mono ?_); rintro e w22 ⟨rfl, hb⟩; refine ⟨_, rfl, ?_⟩; have n0_ := Aside0.mk (blk_below (g := gb549) (o := .cells #[.int .i64 a2_0, .int .i64 a2_1] 57 (0, 0)) (by (with_reducible repeat (first | refine blk_drewN ?_ _ | refine blk_drew ?_ | refine blk_alloc ?_ _)); exact BK549.out) hb); have n1_ := Aside0.mk (below_step (by repeat (first | (with_reducible first | exact HB.out | apply below_alloc | apply pw_below_drewN | apply below_drew1 | refine below_set ?_ GE549.out) | exact HB.out)) hb); clear BK549; clear HB; have BK549 := n0_; have HB := n1_; clear n0_ n1_; (try clear hb); (try clear hb2); (try clear hk); (try clear hi)) | ((with_reducible refine gate_callee (f := 37) rfl ?_); refine goesL_ (some 63) rfl rfl Try.func37 (by kernel_rfl) rfl #[.int .i64 (Int.tmod (wrap64 ((Int.tmod a2_0 32768) + 32768)) 32768), .int .i64 (wrap64 (1 - x9_2))] rfl (by (try simp only [List.map_toArray, List.map_cons, List.map_nil]); first | done | rfl | (simp only [List.length_drop, List.length_take]; rfl)) ?_; (with_reducible refine (crc15_Step.calls (Int.tmod (wrap64 ((Int.tmod a2_0 32768) + 32768)) 32768) (wrap64 (1 - x9_2)) t555 t556 _ A15.out).mono ?_); rintro e w23 ⟨rfl, hb⟩; refine ⟨_, rfl, ?_⟩; have n0_ := Aside0.mk (blk_below (g := gb549) (o := .cells #[.int .i64 a2_0, .int .i64 a2_1] 57 (0, 0)) (by (with_reducible repeat (first | refine blk_drewN ?_ _ | refine blk_drew ?_ | refine blk_alloc ?_ _)); exact BK549.out) hb); have n1_ := Aside0.mk (below_step (by repeat (first | (with_reducible first | exact HB.out | apply below_alloc | apply pw_below_drewN | apply below_drew1 | refine below_set ?_ GE549.out) | exact HB.out)) hb); clear BK549; clear HB; have BK549 := n0_; have HB := n1_; clear n0_ n1_; (try clear hb); (try clear hb2); (try clear hk); (try clear hi)))
                        go_roundg k2
                        case measure => have := HJ3.out; have := HK2.out; omega
                        case rel => exact ⟨(wrap64 (x9_2 + 1)), (by first | rfl | (simp; done) | (simp [*]; done)), H', ⟨by have := HJ3.out; have := HK2.out; omega⟩, ⟨by (with_reducible repeat (first | refine blk_drewN ?_ _ | refine blk_drew ?_ | refine blk_alloc ?_ _)); exact BK549.out⟩, ⟨by repeat (first | (with_reducible first | exact HB.out | apply below_alloc | apply pw_below_drewN | apply below_drew1 | refine below_set ?_ GE549.out) | exact HB.out)⟩⟩
                      · rw [if_neg c20] at H
                        exact absurd H (by simp)
                  · rw [if_neg c18] at H
                    exact absurd H (by simp)
                · rw [if_neg c17] at H
                  exact absurd H (by simp)
              · rw [if_neg c16] at H
                exact absurd H (by simp)
            · rw [if_neg c12] at H
              have c12b0 : decide (x9_2 < 2) = false := decide_eq_false c12
              clear c12
              by_cases c24 : 0 ≤ a1
              · rw [if_pos c24] at H
                have c24b0 := eq_true c24
                have c24b1 : decide (0 ≤ a1) = true := decide_eq_true c24
                clear c24
                by_cases c25 : (a1 : Int).toNat ≤ 35184372088832
                · rw [if_pos c25] at H
                  have c25b0 := eq_true c25
                  have c25b1 : decide ((a1 : Int).toNat ≤ 35184372088832) = true := decide_eq_true c25
                  clear c25
                  obtain ⟨y557, hy557⟩ : ∃ y_ : List Int, y_ = (List.replicate (a1 : Int).toNat 0) := ⟨_, rfl⟩
                  replace H : (if y557.length + l0.length < 17592186044416 then ((some (y557 ++ l0 : List Int)).bind fun y560 => ((crc15_Sum.f l0).bind fun bt563 => ((crc15_Sum.f y560).bind fun bt565 => (if bt563.1 = bt565.1 then (magnetolaw02_Crc15Zeros.j2 k2 l0 y560 (bt563.2 != bt565.2)) else (none))))) else (none)) = some r := by first | (rw [hy557]; with_reducible exact H) | (have H2_ := (Option.bind_some _ _).symm.trans H; rw [hy557]; with_reducible exact H2_) | (have H2_ := (Option.bind_some _ _).symm.trans H; with_reducible exact H2_) | with_reducible exact H | (rw [hy557]; exact H) | exact H
                  have Ny557 := Aside0.mk hy557
                  clear hy557
                  by_cases c26 : y557.length + l0.length < 17592186044416
                  · rw [if_pos c26] at H
                    have LMc26 := Aside0.mk c26
                    clear c26
                    obtain ⟨y560, hy560⟩ : ∃ y_ : List Int, y_ = (y557 ++ l0) := ⟨_, rfl⟩
                    replace H : ((crc15_Sum.f l0).bind fun bt563 => ((crc15_Sum.f y560).bind fun bt565 => (if bt563.1 = bt565.1 then (magnetolaw02_Crc15Zeros.j2 k2 l0 y560 (bt563.2 != bt565.2)) else (none)))) = some r := by first | (rw [hy560]; with_reducible exact H) | (have H2_ := (Option.bind_some _ _).symm.trans H; rw [hy560]; with_reducible exact H2_) | (have H2_ := (Option.bind_some _ _).symm.trans H; with_reducible exact H2_) | with_reducible exact H | (rw [hy560]; exact H) | exact H
                    have Ny560 := Aside0.mk hy560
                    clear hy560
                    replace H := Option.bind_eq_some_iff.mp H
                    obtain ⟨⟨t563, t564⟩, A270, H⟩ := H
                    replace H : ((crc15_Sum.f y560).bind fun bt565 => (if t563 = bt565.1 then (magnetolaw02_Crc15Zeros.j2 k2 l0 y560 (t564 != bt565.2)) else (none))) = some r := H
                    have A27 := Aside0.mk A270
                    clear A270
                    replace H := Option.bind_eq_some_iff.mp H
                    obtain ⟨⟨t565, t566⟩, A280, H⟩ := H
                    replace H : (if t563 = t565 then (magnetolaw02_Crc15Zeros.j2 k2 l0 y560 (t564 != t566)) else (none)) = some r := H
                    have A28 := Aside0.mk A280
                    clear A280
                    have HC29 := Aside0.mk H
                    clear H
                    go_upto_region 16 with (first | ((with_reducible refine gate_dst (N := 92) rfl ?_); refine Kd.R_make (Kd.int .i64) _ 3 rfl (N := 92) rfl 22 _ _ rfl a1 rfl rfl Try.underlying22 (.int .i64 0) 8 info3 rfl (by decide) (by omega) 0 (ok := fun _ => True) (okp := fun _ => True) rfl (fun _ hk => hk) trivial (of_decide_eq_true (by first | (with_reducible assumption) | assumption)) (Nat.le_trans (Nat.mul_le_mul_right _ (of_decide_eq_true (by first | (with_reducible assumption) | assumption) : a1.toNat ≤ 35184372088832)) (by omega)) (Below.refl _ _) (Nat.le_refl _) ?_; intro v558 w30 ho31 hb hg_ hnew_; clear hg_ hnew_; (first | rw [← Ny557.out] at ho31 | (simp only [Int.reduceToNat] at ho31; rw [← Ny557.out] at ho31)); have n0_ := Aside0.mk (Kd.R_lower ho31 (below_size (by repeat (first | (with_reducible first | exact HB.out | apply below_alloc | apply pw_below_drewN | apply below_drew1 | refine below_set ?_ GE549.out) | exact HB.out)))); have n1_ := Aside0.mk (blk_below (g := gb549) (o := .cells #[.int .i64 a2_0, .int .i64 a2_1] 57 (0, 0)) (by (with_reducible repeat (first | refine blk_drewN ?_ _ | refine blk_drew ?_ | refine blk_alloc ?_ _)); exact BK549.out) hb); have n2_ := Aside0.mk (below_step (by repeat (first | (with_reducible first | exact HB.out | apply below_alloc | apply pw_below_drewN | apply below_drew1 | refine below_set ?_ GE549.out) | exact HB.out)) hb); clear BK549; clear HB; have HO559 := n0_; have BK549 := n1_; have HB := n2_; clear n0_ n1_ n2_; clear hb ho31) | ((with_reducible refine gate_builtin (b := .append) (xs := #[.tmp 92, .tmp 93]) rfl ?_); at_builtin; refine Kd.R_append_rows (Kd.int .i64) (w0 := w) w.heap.size rfl (.tmp 92) (.tmp 93) 22 3 (.int .i64 0) 8 rfl Try.underlying22 info3 rfl (by decide) (by omega) v558 y557 l0 _ _ _ (fun _ => True) (fun _ => False) rfl rfl ?aO ?aR (fun _ _ h => h) (fun _ h => h.elim) ?aF ?aB ?aS ?aL ?_; (case aR => repeat (first | exact (Kd.C_below HR0.out HB.out) | (with_reducible refine Kd.C_alloc ?_ _) | (with_reducible refine Kd.C_drewN ?_ _) | (with_reducible refine Kd.C_drew ?_))); (case aB => exact (by repeat (first | (with_reducible first | exact HB.out | apply below_alloc | apply pw_below_drewN | apply below_drew1 | refine below_set ?_ GE549.out) | exact HB.out))); (case aF => exact (fun _ _ => trivial)); (case aO => exact (by (with_reducible repeat (first | apply Kd.R_alloc | apply Kd.R_drewN | apply Kd.R_drew)); exact HO559.out)); (case aS => exact (below_size (by repeat (first | (with_reducible first | exact HB.out | apply below_alloc | apply pw_below_drewN | apply below_drew1 | refine below_set ?_ GE549.out) | exact HB.out)))); (case aL => have := LMc26.out; omega); intro v561 w32 ho hb hg hat; rw [← Ny560.out] at ho; have n0_ := Aside0.mk (blk_grown (g := gb549) (o := .cells #[.int .i64 a2_0, .int .i64 a2_1] 57 (0, 0)) (by (with_reducible repeat (first | refine blk_drewN ?_ _ | refine blk_drew ?_ | refine blk_alloc ?_ _)); exact BK549.out) hg (Kd.R_ne HO559.out BK549.out (by decide))); have n1_ := Aside0.mk (hb); have n2_ := Aside0.mk (ho); clear BK549; clear HB; clear HO559; have BK549 := n0_; have HB := n1_; have HO562 := n2_; clear n0_ n1_ n2_; clear ho hb hg hat) | ((with_reducible refine gate_callee (f := 36) rfl ?_); refine goesL_ (some 97) rfl rfl Try.func36 (by kernel_rfl) rfl #[.slice A0 l0.length c0] rfl (by (try simp only [List.map_toArray, List.map_cons, List.map_nil]); first | done | rfl | (simp only [List.length_drop, List.length_take]; rfl)) ?_; (with_reducible refine (crc15_Sum.calls _ _ l0 t563 t564 _ ?side1 ?side2 A27.out).mono ?_); (case side1 => repeat (first | exact (Kd.C_below HR0.out HB.out) | (with_reducible refine Kd.C_alloc ?_ _) | (with_reducible refine Kd.C_drewN ?_ _) | (with_reducible refine Kd.C_drew ?_))); (case side2 => exact HC0.out); rintro e w33 ⟨rfl, hb⟩; refine ⟨_, rfl, ?_⟩; have n0_ := Aside0.mk (Kd.R_below (by (with_reducible repeat (first | apply Kd.R_alloc | apply Kd.R_drewN | apply Kd.R_drew)); exact HO562.out) hb); have n1_ := Aside0.mk (blk_below (g := gb549) (o := .cells #[.int .i64 a2_0, .int .i64 a2_1] 57 (0, 0)) (by (with_reducible repeat (first | refine blk_drewN ?_ _ | refine blk_drew ?_ | refine blk_alloc ?_ _)); exact BK549.out) hb); have n2_ := Aside0.mk (below_step (by repeat (first | (with_reducible first | exact HB.out | apply below_alloc | apply pw_below_drewN | apply below_drew1 | refine below_set ?_ GE549.out) | exact HB.out)) hb); clear HO562; clear BK549; clear HB; have HO562 := n0_; have BK549 := n1_; have HB := n2_; clear n0_ n1_ n2_; (try clear hb); (try clear hb2); (try clear hk); (try clear hi); obtain ⟨Ao34, co34, eo34⟩ := Kd.R_slice HO562.out; subst eo34) | ((with_reducible refine gate_callee (f := 36) rfl ?_); refine goesL_ (some 102) rfl rfl Try.func36 (by kernel_rfl) rfl #[.slice Ao34 y560.length co34] rfl (by (try simp only [List.map_toArray, List.map_cons, List.map_nil]); first | done | rfl | (simp only [List.length_drop, List.length_take]; rfl)) ?_; (with_reducible refine (crc15_Sum.calls _ _ y560 t565 t566 _ ?side1 ?side2 A28.out).mono ?_); (case side1 => repeat (first | exact (Kd.R_reads' HO562.out).2.2 | (with_reducible refine Kd.C_alloc ?_ _) | (with_reducible refine Kd.C_drewN ?_ _) | (with_reducible refine Kd.C_drew ?_))); (case side2 => exact (Kd.R_reads' HO562.out).2.1); rintro e w35 ⟨rfl, hb⟩; refine ⟨_, rfl, ?_⟩; have n0_ := Aside0.mk (Kd.R_below (by (with_reducible repeat (first | apply Kd.R_alloc | apply Kd.R_drewN | apply Kd.R_drew)); exact HO562.out) hb); have n1_ := Aside0.mk (blk_below (g := gb549) (o := .cells #[.int .i64 a2_0, .int .i64 a2_1] 57 (0, 0)) (by (with_reducible repeat (first | refine blk_drewN ?_ _ | refine blk_drew ?_ | refine blk_alloc ?_ _)); exact BK549.out) hb); have n2_ := Aside0.mk (below_step (by repeat (first | (with_reducible first | exact HB.out | apply below_alloc | apply pw_below_drewN | apply below_drew1 | refine below_set ?_ GE549.out) | exact HB.out)) hb); clear HO562; clear BK549; clear HB; have HO562 := n0_; have BK549 := n1_; have HB := n2_; clear n0_ n1_ n2_; (try clear hb); (try clear hb2); (try clear hk); (try clear hi)))
                    (try simp only [Act.put, List.setIfInBounds_toArray, List.set_cons_zero, List.set_cons_succ])
                    go_cut [112] (fun v112 wc => ∃ (kq : Nat) (x112_28 : Bool), v112 = .bool x112_28 ∧ Aside0 (magnetolaw02_Crc15Zeros.j2 kq l0 y560 x112_28 = some r) ∧ Aside0 (kq ≤ k2) ∧ Aside0 (Kd.R (Kd.int .i64) 3 wc w.heap.size (fun _ => True) (.slice Ao34 y560.length co34) y560) ∧ Aside0 (wc.heap[gb549]? = some (.cells #[.int .i64 a2_0, .int .i64 a2_1] 57 (0, 0))) ∧ Aside0 (Below w.heap.size w wc))
                    case first =>
                      have H := HC29.out
                      clear HC29
                      by_cases c36 : t563 = t565
                      · rw [if_pos c36] at H
                        have c36b0 : (t563 == t565) = true := beq_iff_eq.mpr c36
                        have c36b1 : (t563 != t565) = false := bne_eq_false_iff_eq.mpr c36
                        clear c36
                        (first | rw [c36b0] | (simp only [i64_w, i32_w]; rw [c36b0]) | skip)
                        have H' := Aside0.mk H
                        clear H
                        go_wp2
                        go_meet
                        case rel => exact ⟨_, ((t564 != t566)), (by first | rfl | (simp; done) | (simp [*]; done)), H', ⟨by have := HJ3.out; have := HK2.out; first | omega | exact Nat.le_refl _⟩, ⟨by (with_reducible repeat (first | apply Kd.R_alloc | apply Kd.R_drewN | apply Kd.R_drew)); exact HO562.out⟩, ⟨by (with_reducible repeat (first | refine blk_drewN ?_ _ | refine blk_drew ?_ | refine blk_alloc ?_ _)); exact BK549.out⟩, ⟨by repeat (first | (with_reducible first | exact HB.out | apply below_alloc | apply pw_below_drewN | apply below_drew1 | refine below_set ?_ GE549.out) | exact HB.out)⟩⟩
                      · rw [if_neg c36] at H
                        exact absurd H (by simp)
                    case rest =>
                      clear HC29
                      try clear c1
                      try clear c2
                      try clear p2
                      try clear c3
                      try clear c6
                      try clear c6b0
                      try clear c6b1
                      try clear p6
                      try clear c7
                      try clear c7b0
                      try clear c8
                      try clear c12
                      try clear c12b0
                      try clear c14
                      try clear c15
                      try clear c16
                      try clear c16b0
                      try clear c16b1
                      try clear c17
                      try clear c17b0
                      try clear c17b1
                      try clear c18
                      try clear c18b0
                      try clear c18b1
                      try clear c19
                      try clear c19b0
                      try clear c19b1
                      try clear c19b2
                      try clear c20
                      try clear c20b0
                      try clear c20b1
                      try clear c24
                      try clear c24b0
                      try clear c24b1
                      try clear c25
                      try clear c25b0
                      try clear c25b1
                      try clear c26
                      try clear c35
                      try clear c36
                      try clear c36b0
                      try clear c36b1
                      try clear hcz11_0
                      try clear hcz11_1
                      try clear hfz11_0
                      try clear hfz11_1
                      try clear p2
                      try clear p6
                      obtain ⟨kq, x112_28, rfl, HA, HJ28, HO_16, BK549, HB⟩ := hcut
                      cases kq with
                      | zero => exact absurd HA.out (by simp [magnetolaw02_Crc15Zeros.j2])
                      | succ kj28 =>
                        have H := HA.out
                        clear HA
                        simp only [magnetolaw02_Crc15Zeros.j2] at H
                        by_cases c37 : x112_28 = true
                        · subst c37
                          have H1 : (none) = some r := by rw [if_pos rfl] at H; exact H
                          clear H
                          have H := H1
                          clear H1
                          exact absurd H (by simp)
                        · replace c37 := Bool.eq_false_iff.mpr c37
                          subst c37
                          have H1 : (if (l0.length : Int) < 15 then ((magnetolaw02_awake.f).bind fun t567 => (some t567)) else ((crc15_Right.f kj28 l0).bind fun t568 => ((crc15_Right.f kj28 y560).bind fun t569 => (if (t568 == t569) = true then ((magnetolaw02_awake.f).bind fun t570 => (some t570)) else (none))))) = some r := by rw [if_neg (show ¬ (false = true) by decide)] at H; exact H
                          clear H
                          have H := H1
                          clear H1
                          by_cases c38 : (l0.length : Int) < 15
                          · rw [if_pos c38] at H
                            have c38b0 : decide ((l0.length : Int) < 15) = true := decide_eq_true c38
                            have c38b1 : decide (l0.length < 15) = true := decide_eq_true (by omega)
                            clear c38
                            replace H := Option.bind_eq_some_iff.mp H
                            obtain ⟨t567, A390, H⟩ := H
                            replace H : (some t567) = some r := H
                            have A39 := Aside0.mk A390
                            clear A390
                            obtain rfl := Option.some.inj H
                            go_wp2_with (first | (go_at_call 35; (with_reducible refine (magnetolaw02_awake.calls  t567 _ A39.out).mono ?_); rintro e w40 ⟨rfl, hb⟩; have n0_ := Aside0.mk (Kd.R_below (by (with_reducible repeat (first | apply Kd.R_alloc | apply Kd.R_drewN | apply Kd.R_drew)); exact HO_16.out) hb); have n1_ := Aside0.mk (blk_below (g := gb549) (o := .cells #[.int .i64 a2_0, .int .i64 a2_1] 57 (0, 0)) (by (with_reducible repeat (first | refine blk_drewN ?_ _ | refine blk_drew ?_ | refine blk_alloc ?_ _)); exact BK549.out) hb); have n2_ := Aside0.mk (below_step (by repeat (first | (with_reducible first | exact HB.out | apply below_alloc | apply pw_below_drewN | apply below_drew1 | refine below_set ?_ GE549.out) | exact HB.out)) hb); clear HO_16; clear BK549; clear HB; have HO_16 := n0_; have BK549 := n1_; have HB := n2_; clear n0_ n1_ n2_; (try clear hb); (try clear hb2); (try clear hk); (try clear hi)))
                            go_ret
                            exact ⟨by first | rfl | (simp [errW_none, errW_some] <;> rfl) | (simp [*, errW_none, errW_some] <;> rfl), by repeat (first | (with_reducible first | exact HB.out | apply below_alloc | apply pw_below_drewN | apply below_drew1 | refine below_set ?_ GE549.out) | exact HB.out)⟩
                          · rw [if_neg c38] at H
                            have c38b0 : decide ((l0.length : Int) < 15) = false := decide_eq_false c38
                            have c38b1 : decide (l0.length < 15) = false := decide_eq_false (by omega)
                            clear c38
                            replace H := Option.bind_eq_some_iff.mp H
                            obtain ⟨t568, A410, H⟩ := H
                            replace H : ((crc15_Right.f kj28 y560).bind fun t569 => (if (t568 == t569) = true then ((magnetolaw02_awake.f).bind fun t570 => (some t570)) else (none))) = some r := H
                            have A41 := Aside0.mk A410
                            clear A410
                            replace H := Option.bind_eq_some_iff.mp H
                            obtain ⟨t569, A420, H⟩ := H
                            replace H : (if (t568 == t569) = true then ((magnetolaw02_awake.f).bind fun t570 => (some t570)) else (none)) = some r := H
                            have A42 := Aside0.mk A420
                            clear A420
                            by_cases c43 : (t568 == t569) = true
                            · rw [if_pos c43] at H
                              have c43b0 : (t568 == t569) = true := c43
                              (try (have c43b1 : decide (t568 = t569) = true := by simpa using c43))
                              (try (have c43b2 : (t568 == t569) = true := by simpa using c43))
                              clear c43
                              replace H := Option.bind_eq_some_iff.mp H
                              obtain ⟨t570, A440, H⟩ := H
                              replace H : (some t570) = some r := H
                              have A44 := Aside0.mk A440
                              clear A440
                              obtain rfl := Option.some.inj H
                              go_wp2_with (first | (go_at_call 43; (with_reducible refine (crc15_Right.calls kj28 _ _ l0 t568 _ ?side1 ?side2 A41.out).mono ?_); (case side1 => repeat (first | exact (Kd.C_below HR0.out HB.out) | (with_reducible refine Kd.C_alloc ?_ _) | (with_reducible refine Kd.C_drewN ?_ _) | (with_reducible refine Kd.C_drew ?_))); (case side2 => exact HC0.out); rintro e w45 ⟨rfl, hb⟩; have n0_ := Aside0.mk (Kd.R_below (by (with_reducible repeat (first | apply Kd.R_alloc | apply Kd.R_drewN | apply Kd.R_drew)); exact HO_16.out) hb); have n1_ := Aside0.mk (blk_below (g := gb549) (o := .cells #[.int .i64 a2_0, .int .i64 a2_1] 57 (0, 0)) (by (with_reducible repeat (first | refine blk_drewN ?_ _ | refine blk_drew ?_ | refine blk_alloc ?_ _)); exact BK549.out) hb); have n2_ := Aside0.mk (below_step (by repeat (first | (with_reducible first | exact HB.out | apply below_alloc | apply pw_below_drewN | apply below_drew1 | refine below_set ?_ GE549.out) | exact HB.out)) hb); clear HO_16; clear BK549; clear HB; have HO_16 := n0_; have BK549 := n1_; have HB := n2_; clear n0_ n1_ n2_; (try clear hb); (try clear hb2); (try clear hk); (try clear hi)) | (go_at_call 43; (with_reducible refine (crc15_Right.calls kj28 _ _ y560 t569 _ ?side1 ?side2 A42.out).mono ?_); (case side1 => repeat (first | exact (Kd.R_reads' HO_16.out).2.2 | (with_reducible refine Kd.C_alloc ?_ _) | (with_reducible refine Kd.C_drewN ?_ _) | (with_reducible refine Kd.C_drew ?_))); (case side2 => exact (Kd.R_reads' HO_16.out).2.1); rintro e w46 ⟨rfl, hb⟩; have n0_ := Aside0.mk (Kd.R_below (by (with_reducible repeat (first | apply Kd.R_alloc | apply Kd.R_drewN | apply Kd.R_drew)); exact HO_16.out) hb); have n1_ := Aside0.mk (blk_below (g := gb549) (o := .cells #[.int .i64 a2_0, .int .i64 a2_1] 57 (0, 0)) (by (with_reducible repeat (first | refine blk_drewN ?_ _ | refine blk_drew ?_ | refine blk_alloc ?_ _)); exact BK549.out) hb); have n2_ := Aside0.mk (below_step (by repeat (first | (with_reducible first | exact HB.out | apply below_alloc | apply pw_below_drewN | apply below_drew1 | refine below_set ?_ GE549.out) | exact HB.out)) hb); clear HO_16; clear BK549; clear HB; have HO_16 := n0_; have BK549 := n1_; have HB := n2_; clear n0_ n1_ n2_; (try clear hb); (try clear hb2); (try clear hk); (try clear hi)) | (go_at_call 35; (with_reducible refine (magnetolaw02_awake.calls  t570 _ A44.out).mono ?_); rintro e w47 ⟨rfl, hb⟩; have n0_ := Aside0.mk (Kd.R_below (by (with_reducible repeat (first | apply Kd.R_alloc | apply Kd.R_drewN | apply Kd.R_drew)); exact HO_16.out) hb); have n1_ := Aside0.mk (blk_below (g := gb549) (o := .cells #[.int .i64 a2_0, .int .i64 a2_1] 57 (0, 0)) (by (with_reducible repeat (first | refine blk_drewN ?_ _ | refine blk_drew ?_ | refine blk_alloc ?_ _)); exact BK549.out) hb); have n2_ := Aside0.mk (below_step (by repeat (first | (with_reducible first | exact HB.out | apply below_alloc | apply pw_below_drewN | apply below_drew1 | refine below_set ?_ GE549.out) | exact HB.out)) hb); clear HO_16; clear BK549; clear HB; have HO_16 := n0_; have BK549 := n1_; have HB := n2_; clear n0_ n1_ n2_; (try clear hb); (try clear hb2); (try clear hk); (try clear hi)))
                              go_ret
                              exact ⟨by first | rfl | (simp [errW_none, errW_some] <;> rfl) | (simp [*, errW_none, errW_some] <;> rfl), by repeat (first | (with_reducible first | exact HB.out | apply below_alloc | apply pw_below_drewN | apply below_drew1 | refine below_set ?_ GE549.out) | exact HB.out)⟩
                            · rw [if_neg c43] at H
                              exact absurd H (by simp)
                  · rw [if_neg c26] at H
                    exact absurd H (by simp)
                · rw [if_neg c25] at H
                  exact absurd H (by simp)
              · rw [if_neg c24] at H
                exact absurd H (by simp)

/-! ### magnetolaw05_ints: function 47 -/
def magnetolaw05_ints.l0 : Nat → List Int → List Int → Int → Option (Bool)
  | 0, _, _, _ => none
  | k + 1, x0, x1, x5 => if x5 < (x0.length : Int) then (if 0 ≤ x5 then (if x5 < (x1.length : Int) then (if (rd x0 x5) = (rd x1 x5) then (magnetolaw05_ints.l0 k x0 x1 (wrap64 (x5 + 1))) else (some false)) else (none)) else (none)) else (some true)
def magnetolaw05_ints.f (k : Nat) (l0 : List Int) (l1 : List Int) : Option (Bool) := if (l0.length : Int) = (l1.length : Int) then (magnetolaw05_ints.l0 k l0 l1 0) else (some false)
theorem magnetolaw05_ints.mono_l : ∀ k, (∀ y0 y1 y2, LeO (magnetolaw05_ints.l0 k y0 y1 y2) (magnetolaw05_ints.l0 (k + 1) y0 y1 y2))
  | 0 => fun _ _ _ r h => by simp [magnetolaw05_ints.l0] at h
  | k + 1 => by
    have ih0 := magnetolaw05_ints.mono_l k
    · intro y0 y1 y2
      unfold magnetolaw05_ints.l0
      repeat' first
      | (with_reducible exact ih0 _ _ _)
      | (with_reducible exact LeO.refl _)
      | (with_reducible exact LeO.none _)
      | (with_reducible refine LeO.ite ?_ ?_)
      | (with_reducible refine LeO.bind ?_ (fun _ => ?_))
      | exact ih0 _ _ _
      | exact LeO.none _
      | refine LeO.ite ?_ ?_
      | refine LeO.bind ?_ (fun _ => ?_)
theorem magnetolaw05_ints.mono : ∀ a0 a1 k, LeO (magnetolaw05_ints.f k a0 a1) (magnetolaw05_ints.f (k + 1) a0 a1) := by
  intro a0 a1 k
  have ih0 := magnetolaw05_ints.mono_l k
  unfold magnetolaw05_ints.f
  repeat' first
      | (with_reducible exact ih0 _ _ _)
      | (with_reducible exact LeO.refl _)
      | (with_reducible exact LeO.none _)
      | (with_reducible refine LeO.ite ?_ ?_)
      | (with_reducible refine LeO.bind ?_ (fun _ => ?_))
      | exact ih0 _ _ _
      | exact LeO.none _
      | refine LeO.ite ?_ ?_
      | refine LeO.bind ?_ (fun _ => ?_)
set_option maxHeartbeats 8000000 in
set_option maxRecDepth 100000 in
theorem magnetolaw05_ints.calls (k : Nat) (A0 : Option Addr) (c0 : Nat) (l0 : List Int) (A1 : Option Addr) (c1 : Nat) (l1 : List Int) (r : Bool) (w : World) (hr0 : Kd.C (Kd.int .i64) w A0 l0.length l0) (hc0 : l0.length ≤ c0) (hr1 : Kd.C (Kd.int .i64) w A1 l1.length l1) (hc1 : l1.length ≤ c1) (h : magnetolaw05_ints.f k l0 l1 = some r) :
    Calls Try.prog 47 #[.slice A0 l0.length c0, .slice A1 l1.length c1] w fun e w' => e = .returned (.bool r) ∧ Drawn0 w w' := by
  have HR0 := Aside0.mk hr0
  have HC0 := Aside0.mk hc0
  clear hr0 hc0
  have HR1 := Aside0.mk hr1
  have HC1 := Aside0.mk hc1
  clear hr1 hc1
  have H : (if (l0.length : Int) = (l1.length : Int) then (magnetolaw05_ints.l0 k l0 l1 0) else (some false)) = some r := h
  clear h
  by_cases c3 : (l0.length : Int) = (l1.length : Int)
  · rw [if_pos c3] at H
    have c3b0 : ((l0.length : Int) == (l1.length : Int)) = true := beq_iff_eq.mpr c3
    have c3b1 : ((l0.length : Int) != (l1.length : Int)) = false := bne_eq_false_iff_eq.mpr c3
    have c3b2 : (l0.length == l1.length) = true := by first | simpa using c3 | (simp at c3 ⊢; omega)
    clear c3
    have H' := Aside0.mk H
    clear H
    go_enter Try.func47, Try.ntmps47
    go_wp2
    repeat (go_quiet (fail); try go_wp2)
    go_loopg [5] k (fun kq v5 w' => ∃ (x5_1 : Int), v5 = .int .i64 x5_1 ∧ Aside0 (magnetolaw05_ints.l0 kq l0 l1 x5_1 = some r) ∧ Aside0 (kq ≤ k) ∧ Drawn0 w w')
    case atStart => exact ⟨(0), (by first | rfl | (simp; done) | (simp [*]; done)), H', ⟨Nat.le_refl _⟩, by repeat (first | exact Drawn0.refl _ | apply Drawn0.step)⟩
    case round =>
      clear H'
      try clear c1
      try clear p2
      try clear c3
      try clear c3b0
      try clear c3b1
      try clear c3b2
      obtain ⟨x5_1, rfl, HA, HK1, ⟨m1, rfl⟩⟩ := hrel
      cases gk with
      | zero => exact absurd HA.out (by simp [magnetolaw05_ints.l0])
      | succ k1 =>
        have H := HA.out
        clear HA
        simp only [magnetolaw05_ints.l0] at H
        by_cases c4 : x5_1 < (l0.length : Int)
        · rw [if_pos c4] at H
          have c4b0 : decide (x5_1 < (l0.length : Int)) = true := decide_eq_true c4
          clear c4
          by_cases c5 : 0 ≤ x5_1
          · rw [if_pos c5] at H
            have c5b0 : decide (0 ≤ x5_1) = true := decide_eq_true c5
            clear c5
            by_cases c6 : x5_1 < (l1.length : Int)
            · rw [if_pos c6] at H
              have c6b0 : decide (x5_1 < (l1.length : Int)) = true := decide_eq_true c6
              clear c6
              by_cases c7 : (rd l0 x5_1) = (rd l1 x5_1)
              · rw [if_pos c7] at H
                have c7b0 : ((rd l0 x5_1) == (rd l1 x5_1)) = true := beq_iff_eq.mpr c7
                have c7b1 : ((rd l0 x5_1) != (rd l1 x5_1)) = false := bne_eq_false_iff_eq.mpr c7
                clear c7
                have H' := Aside0.mk H
                clear H
                have p571 : 0 ≤ (x5_1 : Int) := of_decide_eq_true (by first | (with_reducible assumption) | assumption)
                have q571 : x5_1 < (l0.length : Int) := of_decide_eq_true (by first | (with_reducible assumption) | assumption)
                obtain ⟨ad571, e571, hx571_0⟩ := Kd.at_int HR0.out x5_1 p571 q571
                cases e571
                replace p571 := eq_true p571
                replace q571 := eq_true q571
                have p572 : 0 ≤ (x5_1 : Int) := of_decide_eq_true (by first | (with_reducible assumption) | assumption)
                have q572 : x5_1 < (l1.length : Int) := of_decide_eq_true (by first | (with_reducible assumption) | assumption)
                obtain ⟨ad572, e572, hx572_0⟩ := Kd.at_int HR1.out x5_1 p572 q572
                cases e572
                replace p572 := eq_true p572
                replace q572 := eq_true q572
                go_wp2
                repeat (go_quiet (fail); try go_wp2)
                go_roundg k1
                case measure => have := HK1.out; omega
                case rel => exact ⟨(wrap64 (x5_1 + 1)), (by first | rfl | (simp; done) | (simp [*]; done)), H', ⟨by have := HK1.out; omega⟩, by repeat (first | exact Drawn0.refl _ | apply Drawn0.step)⟩
              · rw [if_neg c7] at H
                have c7b0 : ((rd l0 x5_1) == (rd l1 x5_1)) = false := beq_eq_false_iff_ne.mpr c7
                have c7b1 : ((rd l0 x5_1) != (rd l1 x5_1)) = true := bne_iff_ne.mpr c7
                obtain rfl := Option.some.inj H
                have p571 : 0 ≤ (x5_1 : Int) := of_decide_eq_true (by first | (with_reducible assumption) | assumption)
                have q571 : x5_1 < (l0.length : Int) := of_decide_eq_true (by first | (with_reducible assumption) | assumption)
                obtain ⟨ad571, e571, hx571_0⟩ := Kd.at_int HR0.out x5_1 p571 q571
                cases e571
                replace p571 := eq_true p571
                replace q571 := eq_true q571
                have p572 : 0 ≤ (x5_1 : Int) := of_decide_eq_true (by first | (with_reducible assumption) | assumption)
                have q572 : x5_1 < (l1.length : Int) := of_decide_eq_true (by first | (with_reducible assumption) | assumption)
                obtain ⟨ad572, e572, hx572_0⟩ := Kd.at_int HR1.out x5_1 p572 q572
                cases e572
                replace p572 := eq_true p572
                replace q572 := eq_true q572
                go_wp2
                repeat (go_quiet (fail); try go_wp2)
                go_ret
                exact ⟨by first | rfl | (simp; done) | (simp [*]; done), by repeat (first | exact Drawn0.refl _ | apply Drawn0.step)⟩
            · rw [if_neg c6] at H
              exact absurd H (by simp)
          · rw [if_neg c5] at H
            exact absurd H (by simp)
        · rw [if_neg c4] at H
          have c4b0 : decide (x5_1 < (l0.length : Int)) = false := decide_eq_false c4
          clear c4
          obtain rfl := Option.some.inj H
          go_wp2
          repeat (go_quiet (fail); try go_wp2)
          go_ret
          exact ⟨by first | rfl | (simp; done) | (simp [*]; done), by repeat (first | exact Drawn0.refl _ | apply Drawn0.step)⟩
  · rw [if_neg c3] at H
    have c3b0 : ((l0.length : Int) == (l1.length : Int)) = false := beq_eq_false_iff_ne.mpr c3
    have c3b1 : ((l0.length : Int) != (l1.length : Int)) = true := bne_iff_ne.mpr c3
    have c3b2 : (l0.length == l1.length) = false := by first | simpa using c3 | (simp at c3 ⊢; omega)
    obtain rfl := Option.some.inj H
    go_enter Try.func47, Try.ntmps47
    go_wp2
    repeat (go_quiet (fail); try go_wp2)
    go_ret
    exact ⟨by first | rfl | (simp; done) | (simp [*]; done), by repeat (first | exact Drawn0.refl _ | apply Drawn0.step)⟩

/-! ### stuff_other: function 65 -/
def stuff_other.f (a0 : Int) : Option (Int) := some (wrap64 (1 - a0))
set_option maxHeartbeats 8000000 in
set_option maxRecDepth 100000 in
theorem stuff_other.calls (a0 : Int) (r : Int) (w : World) (h : stuff_other.f a0 = some r) :
    Calls Try.prog 65 #[.int .i64 a0] w fun e w' => e = .returned (.int .i64 r) ∧ Drawn0 w w' := by
  have H : (some (wrap64 (1 - a0))) = some r := h
  clear h
  obtain rfl := Option.some.inj H
  go_enter Try.func65, Try.ntmps65
  go_wp2
  go_ret
  exact ⟨by first | rfl | (simp; done) | (simp [*]; done), by repeat (first | exact Drawn0.refl _ | apply Drawn0.step)⟩

end Go.Proofs.Ytclmogjmmcjppaa.PA
