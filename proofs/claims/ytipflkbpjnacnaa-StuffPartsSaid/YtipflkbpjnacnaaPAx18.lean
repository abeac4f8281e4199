/- Functions of the program, in plain Lean, and their walks (printed; half the indent). Conditions: none. -/
-- PRINTED by print.py (a twelfth state) out of the translation. Not trusted: Lean checks it.
import Derived.Test.YtipflkbpjnacnaaPAx0
import Derived.Test.YtipflkbpjnacnaaPAx1
import Derived.Test.YtipflkbpjnacnaaPAx12
import Derived.Test.YtipflkbpjnacnaaPAx13
import Derived.Test.YtipflkbpjnacnaaPAx14
import Derived.Test.YtipflkbpjnacnaaPAx15
import Derived.Test.YtipflkbpjnacnaaPAx16
namespace Go.Proofs.Ytipflkbpjnacnaa.PA
open Go.RowKit Go.Proofs.YtipflkbpjnacnaaW.PrintWords Go.Proofs.YtipflkbpjnacnaaW.PrintLast Go.Proofs.YtipflkbpjnacnaaW.PrintMore
attribute [local go_sem] max2_int min2_int max_two min_two max_three min_three max_four min_four   -- for this text's walks alone
set_option linter.unusedVariables false
set_option linter.unusedSimpArgs false

/-! ### magnetolaw05_StuffParts: function 10 -/
mutual
def magnetolaw05_StuffParts.j0 : Nat → Int → Bool → List Int → List Int → Option (Bool)
 | 0, _, _, _, _ => none
 | k + 1, x1, x26, x479000, x479001 => if x26 = true then ((magnetolaw05_awake.f k).bind fun t479 => (some t479)) else ((some (([] : List Int) : List Int)).bind fun y480 => (if y480.length + x479000.length < 17592186044416 then ((some (y480 ++ x479000 : List Int)).bind fun y483 => (if y483.length + x479001.length < 17592186044416 then ((some (y483 ++ x479001 : List Int)).bind fun y486 => ((bits_Check.f y486).bind fun t489 => (if t489 ≥ 0 then ((stuff_Count.f y486).bind fun t490 => (if t490 = 0 then ((magnetolaw05_awake.f k).bind fun t491 => (some t491)) else (none))) else ((stuff_Add.f x479000).bind fun t492 => ((stuff_Add.f y486).bind fun t495 => (if (t495.length : Int) < (t492.length : Int) then (none) else (if 0 ≤ (t492.length : Int) then (if (t492.length : Int) ≤ (t495.length : Int) then ((magnetolaw05_ints.f k (t495.take ((t492.length : Int) : Int).toNat) t492).bind fun t502 => (magnetolaw05_StuffParts.j1 k x1 y486 t495 (!t502))) else (none)) else (none)))))))) else (none))) else (none)))
def magnetolaw05_StuffParts.j1 : Nat → Int → List Int → List Int → Bool → Option (Bool)
 | 0, _, _, _, _ => none
 | k + 1, x1, x5, x7, x62 => if x62 = true then (none) else (magnetolaw05_StuffParts.l0 k x1 x5 x7 (([] : List Int)) 0)
def magnetolaw05_StuffParts.l0 : Nat → Int → List Int → List Int → List Int → Int → Option (Bool)
 | 0, _, _, _, _, _ => none
 | k + 1, x1, x5, x7, x8, x9 => if x9 < (x5.length : Int) then (if 0 ≤ x9 then (if x8.length < 17592186044416 then (magnetolaw05_StuffParts.l0 k x1 x5 x7 (x8 ++ [wrap64 (1 - (rd x5 x9))]) (wrap64 (x9 + 1))) else (none)) else (none)) else ((stuff_Add.f x8).bind fun t510 => (if (t510.length : Int) = (x7.length : Int) then (magnetolaw05_StuffParts.l1 k x1 x7 t510 0) else (none)))
def magnetolaw05_StuffParts.l1 : Nat → Int → List Int → List Int → Int → Option (Bool)
 | 0, _, _, _, _ => none
 | k + 1, x1, x7, x10, x11 => if x11 < (x10.length : Int) then (if 0 ≤ x11 then (if x11 < (x7.length : Int) then (if (rd x10 x11) = (wrap64 (1 - (rd x7 x11))) then (magnetolaw05_StuffParts.l1 k x1 x7 x10 (wrap64 (x11 + 1))) else (none)) else (none)) else (none)) else (if x1 < 0 then (magnetolaw05_StuffParts.j4 k x1 true) else (magnetolaw05_StuffParts.j4 k x1 (decide (x1 > 200))))
def magnetolaw05_StuffParts.j4 : Nat → Int → Bool → Option (Bool)
 | 0, _, _ => none
 | k + 1, x1, x106 => if x106 = true then ((magnetolaw05_awake.f k).bind fun t515 => (some t515)) else (magnetolaw05_StuffParts.l2 k x1 (([] : List Int)) 0)
def magnetolaw05_StuffParts.l2 : Nat → Int → List Int → Int → Option (Bool)
 | 0, _, _, _ => none
 | k + 1, x1, x12, x13 => if x13 < x1 then (if x13 ≥ 5 then (if x12.length < 17592186044416 then (magnetolaw05_StuffParts.l2 k x1 (x12 ++ [Int.tmod (wrap64 (Int.tdiv (wrap64 (x13 - 1)) 4)) 2]) (wrap64 (x13 + 1))) else (none)) else (if x12.length < 17592186044416 then (magnetolaw05_StuffParts.l2 k x1 (x12 ++ [0]) (wrap64 (x13 + 1))) else (none))) else ((stuff_Most.f x1).bind fun bt525 => (if bt525.2 = 0 then ((stuff_Count.f x12).bind fun t527 => (if t527 = bt525.1 then ((magnetolaw05_awake.f k).bind fun t528 => (some t528)) else (none))) else (none)))
end
def magnetolaw05_StuffParts.f (k : Nat) (l0_0 : List Int) (l0_1 : List Int) (a1 : Int) : Option (Bool) := if (l0_0.length : Int) > 150 then (magnetolaw05_StuffParts.j0 k a1 true l0_0 l0_1) else (magnetolaw05_StuffParts.j0 k a1 (decide ((l0_1.length : Int) > 150)) l0_0 l0_1)
theorem magnetolaw05_StuffParts.mono_l : ∀ k, (∀ y0 y1 y2 y3, LeO (magnetolaw05_StuffParts.j0 k y0 y1 y2 y3) (magnetolaw05_StuffParts.j0 (k + 1) y0 y1 y2 y3)) ∧ (∀ y0 y1 y2 y3, LeO (magnetolaw05_StuffParts.j1 k y0 y1 y2 y3) (magnetolaw05_StuffParts.j1 (k + 1) y0 y1 y2 y3)) ∧ (∀ y0 y1 y2 y3 y4, LeO (magnetolaw05_StuffParts.l0 k y0 y1 y2 y3 y4) (magnetolaw05_StuffParts.l0 (k + 1) y0 y1 y2 y3 y4)) ∧ (∀ y0 y1 y2 y3, LeO (magnetolaw05_StuffParts.l1 k y0 y1 y2 y3) (magnetolaw05_StuffParts.l1 (k + 1) y0 y1 y2 y3)) ∧ (∀ y0 y1, LeO (magnetolaw05_StuffParts.j4 k y0 y1) (magnetolaw05_StuffParts.j4 (k + 1) y0 y1)) ∧ (∀ y0 y1 y2, LeO (magnetolaw05_StuffParts.l2 k y0 y1 y2) (magnetolaw05_StuffParts.l2 (k + 1) y0 y1 y2))
 | 0 => ⟨fun _ _ _ _ r h => by simp [magnetolaw05_StuffParts.j0] at h, fun _ _ _ _ r h => by simp [magnetolaw05_StuffParts.j1] at h, fun _ _ _ _ _ r h => by simp [magnetolaw05_StuffParts.l0] at h, fun _ _ _ _ r h => by simp [magnetolaw05_StuffParts.l1] at h, fun _ _ r h => by simp [magnetolaw05_StuffParts.j4] at h, fun _ _ _ r h => by simp [magnetolaw05_StuffParts.l2] at h⟩
 | k + 1 => by
  obtain ⟨ih0, ih1, ih2, ih3, ih4, ih5⟩ := magnetolaw05_StuffParts.mono_l k
  refine ⟨?_, ?_, ?_, ?_, ?_, ?_⟩
  ·
   intro y0 y1 y2 y3
   unfold magnetolaw05_StuffParts.j0
   repeat' first
   | (with_reducible exact ih0 _ _ _ _)
   | (with_reducible exact ih1 _ _ _ _)
   | (with_reducible exact ih2 _ _ _ _ _)
   | (with_reducible exact ih3 _ _ _ _)
   | (with_reducible exact ih4 _ _)
   | (with_reducible exact ih5 _ _ _)
   | (with_reducible exact magnetolaw05_awake.mono _)
   | (with_reducible exact magnetolaw05_ints.mono _ _ _)
   | (with_reducible exact LeO.refl _)
   | (with_reducible exact LeO.none _)
   | (with_reducible refine LeO.ite ?_ ?_)
   | (with_reducible refine LeO.bind ?_ (fun _ => ?_))
   | exact ih0 _ _ _ _
   | exact ih1 _ _ _ _
   | exact ih2 _ _ _ _ _
   | exact ih3 _ _ _ _
   | exact ih4 _ _
   | exact ih5 _ _ _
   | exact magnetolaw05_awake.mono _
   | exact magnetolaw05_ints.mono _ _ _
   | exact LeO.none _
   | refine LeO.ite ?_ ?_
   | refine LeO.bind ?_ (fun _ => ?_)
  ·
   intro y0 y1 y2 y3
   unfold magnetolaw05_StuffParts.j1
   repeat' first
   | (with_reducible exact ih0 _ _ _ _)
   | (with_reducible exact ih1 _ _ _ _)
   | (with_reducible exact ih2 _ _ _ _ _)
   | (with_reducible exact ih3 _ _ _ _)
   | (with_reducible exact ih4 _ _)
   | (with_reducible exact ih5 _ _ _)
   | (with_reducible exact magnetolaw05_awake.mono _)
   | (with_reducible exact magnetolaw05_ints.mono _ _ _)
   | (with_reducible exact LeO.refl _)
   | (with_reducible exact LeO.none _)
   | (with_reducible refine LeO.ite ?_ ?_)
   | (with_reducible refine LeO.bind ?_ (fun _ => ?_))
   | exact ih0 _ _ _ _
   | exact ih1 _ _ _ _
   | exact ih2 _ _ _ _ _
   | exact ih3 _ _ _ _
   | exact ih4 _ _
   | exact ih5 _ _ _
   | exact magnetolaw05_awake.mono _
   | exact magnetolaw05_ints.mono _ _ _
   | exact LeO.none _
   | refine LeO.ite ?_ ?_
   | refine LeO.bind ?_ (fun _ => ?_)
  ·
   intro y0 y1 y2 y3 y4
   unfold magnetolaw05_StuffParts.l0
   repeat' first
   | (with_reducible exact ih0 _ _ _ _)
   | (with_reducible exact ih1 _ _ _ _)
   | (with_reducible exact ih2 _ _ _ _ _)
   | (with_reducible exact ih3 _ _ _ _)
   | (with_reducible exact ih4 _ _)
   | (with_reducible exact ih5 _ _ _)
   | (with_reducible exact magnetolaw05_awake.mono _)
   | (with_reducible exact magnetolaw05_ints.mono _ _ _)
   | (with_reducible exact LeO.refl _)
   | (with_reducible exact LeO.none _)
   | (with_reducible refine LeO.ite ?_ ?_)
   | (with_reducible refine LeO.bind ?_ (fun _ => ?_))
   | exact ih0 _ _ _ _
   | exact ih1 _ _ _ _
   | exact ih2 _ _ _ _ _
   | exact ih3 _ _ _ _
   | exact ih4 _ _
   | exact ih5 _ _ _
   | exact magnetolaw05_awake.mono _
   | exact magnetolaw05_ints.mono _ _ _
   | exact LeO.none _
   | refine LeO.ite ?_ ?_
   | refine LeO.bind ?_ (fun _ => ?_)
  ·
   intro y0 y1 y2 y3
   unfold magnetolaw05_StuffParts.l1
   repeat' first
   | (with_reducible exact ih0 _ _ _ _)
   | (with_reducible exact ih1 _ _ _ _)
   | (with_reducible exact ih2 _ _ _ _ _)
   | (with_reducible exact ih3 _ _ _ _)
   | (with_reducible exact ih4 _ _)
   | (with_reducible exact ih5 _ _ _)
   | (with_reducible exact magnetolaw05_awake.mono _)
   | (with_reducible exact magnetolaw05_ints.mono _ _ _)
   | (with_reducible exact LeO.refl _)
   | (with_reducible exact LeO.none _)
   | (with_reducible refine LeO.ite ?_ ?_)
   | (with_reducible refine LeO.bind ?_ (fun _ => ?_))
   | exact ih0 _ _ _ _
   | exact ih1 _ _ _ _
   | exact ih2 _ _ _ _ _
   | exact ih3 _ _ _ _
   | exact ih4 _ _
   | exact ih5 _ _ _
   | exact magnetolaw05_awake.mono _
   | exact magnetolaw05_ints.mono _ _ _
   | exact LeO.none _
   | refine LeO.ite ?_ ?_
   | refine LeO.bind ?_ (fun _ => ?_)
  ·
   intro y0 y1
   unfold magnetolaw05_StuffParts.j4
   repeat' first
   | (with_reducible exact ih0 _ _ _ _)
   | (with_reducible exact ih1 _ _ _ _)
   | (with_reducible exact ih2 _ _ _ _ _)
   | (with_reducible exact ih3 _ _ _ _)
   | (with_reducible exact ih4 _ _)
   | (with_reducible exact ih5 _ _ _)
   | (with_reducible exact magnetolaw05_awake.mono _)
   | (with_reducible exact magnetolaw05_ints.mono _ _ _)
   | (with_reducible exact LeO.refl _)
   | (with_reducible exact LeO.none _)
   | (with_reducible refine LeO.ite ?_ ?_)
   | (with_reducible refine LeO.bind ?_ (fun _ => ?_))
   | exact ih0 _ _ _ _
   | exact ih1 _ _ _ _
   | exact ih2 _ _ _ _ _
   | exact ih3 _ _ _ _
   | exact ih4 _ _
   | exact ih5 _ _ _
   | exact magnetolaw05_awake.mono _
   | exact magnetolaw05_ints.mono _ _ _
   | exact LeO.none _
   | refine LeO.ite ?_ ?_
   | refine LeO.bind ?_ (fun _ => ?_)
  ·
   intro y0 y1 y2
   unfold magnetolaw05_StuffParts.l2
   repeat' first
   | (with_reducible exact ih0 _ _ _ _)
   | (with_reducible exact ih1 _ _ _ _)
   | (with_reducible exact ih2 _ _ _ _ _)
   | (with_reducible exact ih3 _ _ _ _)
   | (with_reducible exact ih4 _ _)
   | (with_reducible exact ih5 _ _ _)
   | (with_reducible exact magnetolaw05_awake.mono _)
   | (with_reducible exact magnetolaw05_ints.mono _ _ _)
   | (with_reducible exact LeO.refl _)
   | (with_reducible exact LeO.none _)
   | (with_reducible refine LeO.ite ?_ ?_)
   | (with_reducible refine LeO.bind ?_ (fun _ => ?_))
   | exact ih0 _ _ _ _
   | exact ih1 _ _ _ _
   | exact ih2 _ _ _ _ _
   | exact ih3 _ _ _ _
   | exact ih4 _ _
   | exact ih5 _ _ _
   | exact magnetolaw05_awake.mono _
   | exact magnetolaw05_ints.mono _ _ _
   | exact LeO.none _
   | refine LeO.ite ?_ ?_
   | refine LeO.bind ?_ (fun _ => ?_)
theorem magnetolaw05_StuffParts.mono : ∀ a0 a1 a2 k, LeO (magnetolaw05_StuffParts.f k a0 a1 a2) (magnetolaw05_StuffParts.f (k + 1) a0 a1 a2) := by
 intro a0 a1 a2 k
 obtain ⟨ih0, ih1, ih2, ih3, ih4, ih5⟩ := magnetolaw05_StuffParts.mono_l k
 unfold magnetolaw05_StuffParts.f
 repeat' first
   | (with_reducible exact ih0 _ _ _ _)
   | (with_reducible exact ih1 _ _ _ _)
   | (with_reducible exact ih2 _ _ _ _ _)
   | (with_reducible exact ih3 _ _ _ _)
   | (with_reducible exact ih4 _ _)
   | (with_reducible exact ih5 _ _ _)
   | (with_reducible exact magnetolaw05_awake.mono _)
   | (with_reducible exact magnetolaw05_ints.mono _ _ _)
   | (with_reducible exact LeO.refl _)
   | (with_reducible exact LeO.none _)
   | (with_reducible refine LeO.ite ?_ ?_)
   | (with_reducible refine LeO.bind ?_ (fun _ => ?_))
   | exact ih0 _ _ _ _
   | exact ih1 _ _ _ _
   | exact ih2 _ _ _ _ _
   | exact ih3 _ _ _ _
   | exact ih4 _ _
   | exact ih5 _ _ _
   | exact magnetolaw05_awake.mono _
   | exact magnetolaw05_ints.mono _ _ _
   | exact LeO.none _
   | refine LeO.ite ?_ ?_
   | refine LeO.bind ?_ (fun _ => ?_)
def magnetolaw05_StuffParts.T3 : Bool × List (List Nat × List Nat) := (true, [([], []), ([], []), ([1], [1]), ([0, 2], [0, 2]), ([], []), ([4], [4]), ([3, 5, 3], [3, 5]), ([6, 6, 0, 1, 2, 3, 4, 5, 6], [6])])
def magnetolaw05_StuffParts.B3 : List Nat := [0, 0, 2, 7, 0, 16, 63, 127]
theorem magnetolaw05_StuffParts.tab3 : rtab .any (opsOf Try.f10 3) = magnetolaw05_StuffParts.T3 := by kernel_rfl
theorem magnetolaw05_StuffParts.bits3 : waitsOk magnetolaw05_StuffParts.T3.2 magnetolaw05_StuffParts.B3 = true := by kernel_rfl
def magnetolaw05_StuffParts.T21 : Bool × List (List Nat × List Nat) := (true, [([], []), ([], []), ([0, 1], [0, 1]), ([2], [2]), ([], []), ([], []), ([4, 5], [4, 5]), ([6], [6]), ([7], [7]), ([3, 8], [3, 8])])
def magnetolaw05_StuffParts.B21 : List Nat := [0, 0, 3, 7, 0, 0, 48, 112, 240, 511]
theorem magnetolaw05_StuffParts.tab21 : rtab .any (opsOf Try.f10 21) = magnetolaw05_StuffParts.T21 := by kernel_rfl
theorem magnetolaw05_StuffParts.bits21 : waitsOk magnetolaw05_StuffParts.T21.2 magnetolaw05_StuffParts.B21 = true := by kernel_rfl
set_option maxHeartbeats 8000000 in
set_option maxRecDepth 100000 in
theorem magnetolaw05_StuffParts.calls (k : Nat) (A0_0 : Option Addr) (c0_0 : Nat) (l0_0 : List Int) (A0_1 : Option Addr) (c0_1 : Nat) (l0_1 : List Int) (a1 : Int) (r : Bool) (w : World) (hr0_0 : Kd.C (Kd.int .i64) w A0_0 l0_0.length l0_0) (hc0_0 : l0_0.length ≤ c0_0) (hr0_1 : Kd.C (Kd.int .i64) w A0_1 l0_1.length l0_1) (hc0_1 : l0_1.length ≤ c0_1) (h : magnetolaw05_StuffParts.f k l0_0 l0_1 a1 = some r) :
  Calls Try.prog 10 #[.agg #[.slice A0_0 l0_0.length c0_0, .slice A0_1 l0_1.length c0_1], .int .i64 a1] w fun e w' => e = .returned (.bool r) ∧ Below w.heap.size w w' := by
 have hu23 := Try.underlying23
 have HR0_0 := Aside0.mk hr0_0
 have HC0_0 := Aside0.mk hc0_0
 clear hr0_0 hc0_0
 have HR0_1 := Aside0.mk hr0_1
 have HC0_1 := Aside0.mk hc0_1
 clear hr0_1 hc0_1
 have HB := Aside0.mk (Below.refl w.heap.size w)
 have H : (if (l0_0.length : Int) > 150 then (magnetolaw05_StuffParts.j0 k a1 true l0_0 l0_1) else (magnetolaw05_StuffParts.j0 k a1 (decide ((l0_1.length : Int) > 150)) l0_0 l0_1)) = some r := h
 clear h
 have HC3 := Aside0.mk H
 clear H
 go_enter Try.func10, Try.ntmps10
 go_upto_region 1 with (first | ((with_reducible refine gate_dst (N := 2) rfl ?_); (try (refine gate_guard (by rfl) ?_; dsimp only)); refine box_event ?hg (N := 2) ?hd (cs := #[.slice A0_0 l0_0.length c0_0, .slice A0_1 l0_1.length c0_1]) (t := 23) ?hr ?_; (case hd => rfl); (case hg => rfl); (case hr => first | (go_simp; done) | (go_simp; rfl)); intro gb478 hg w4 hbox hb; have n0_ := Aside0.mk (below_step (by repeat (first | (with_reducible first | exact HB.out | apply below_alloc | apply pw_below_drewN | apply below_drew1) | exact HB.out)) hb); have n1_ := Aside0.mk (hbox); have n2_ := Aside0.mk ((by rw [hg]; exact (below_size (by repeat (first | (with_reducible first | exact HB.out | apply below_alloc | apply pw_below_drewN | apply below_drew1) | exact HB.out))) : w.heap.size ≤ gb478)); have n3_ := Aside0.mk ((by rw [hg]; exact (below_size (by repeat (first | (with_reducible first | exact HB.out | apply below_alloc | apply pw_below_drewN | apply below_drew1) | exact HB.out))) : w.heap.size ≤ gb478)); clear HB; have HB := n0_; have BK478 := n1_; have GW478 := n2_; have GE478 := n3_; clear n0_ n1_ n2_ n3_; clear hb hbox hg))
 (try simp only [Act.put, List.setIfInBounds_toArray, List.set_cons_zero, List.set_cons_succ])
 go_cut [26] (fun v26 wc => ∃ (kq : Nat) (x26_2 : Bool), v26 = .bool x26_2 ∧ Aside0 (magnetolaw05_StuffParts.j0 kq a1 x26_2 l0_0 l0_1 = some r) ∧ Aside0 (kq ≤ k) ∧ Aside0 (wc.heap[gb478]? = some (.cells #[(.slice A0_0 l0_0.length c0_0), (.slice A0_1 l0_1.length c0_1)] 23 (0, 0))) ∧ Aside0 (Below w.heap.size w wc))
 case first =>
  have H := HC3.out
  clear HC3
  by_cases c5 : (l0_0.length : Int) > 150
  ·
   rw [if_pos c5] at H
   have c5b0 : decide (150 < (l0_0.length : Int)) = true := decide_eq_true c5
   have c5b1 : decide (150 < l0_0.length) = true := decide_eq_true (by omega)
   clear c5
   (first | rw [c5b0] | (simp only [i64_w, i32_w]; rw [c5b0]) | skip)
   have H' := Aside0.mk H
   clear H
   have hcz6_0 : w4.cell? ⟨gb478, 0, none⟩ = some (.slice A0_0 l0_0.length c0_0) := (blk_cell BK478.out 0).trans rfl
   have hcz6_1 : w4.cell? ⟨gb478, 1, none⟩ = some (.slice A0_1 l0_1.length c0_1) := (blk_cell BK478.out 1).trans rfl
   have hfz6_0 := blk_frozen BK478.out 0
   have hfz6_1 := blk_frozen BK478.out 1
   go_wp2
   go_meet
   case rel => exact ⟨_, (true), (by first | rfl | (simp; done) | (simp [*]; done)), H', ⟨by first | omega | exact Nat.le_refl _⟩, ⟨by (with_reducible repeat (first | refine blk_drewN ?_ _ | refine blk_drew ?_ | refine blk_alloc ?_ _)); exact BK478.out⟩, ⟨by repeat (first | (with_reducible first | exact HB.out | apply below_alloc | apply pw_below_drewN | apply below_drew1 | refine below_set ?_ GE478.out) | exact HB.out)⟩⟩
  ·
   rw [if_neg c5] at H
   have c5b0 : decide (150 < (l0_0.length : Int)) = false := decide_eq_false c5
   have c5b1 : decide (150 < l0_0.length) = false := decide_eq_false (by omega)
   clear c5
   (first | rw [c5b0] | (simp only [i64_w, i32_w]; rw [c5b0]) | skip)
   have H' := Aside0.mk H
   clear H
   have hcz7_0 : w4.cell? ⟨gb478, 0, none⟩ = some (.slice A0_0 l0_0.length c0_0) := (blk_cell BK478.out 0).trans rfl
   have hcz7_1 : w4.cell? ⟨gb478, 1, none⟩ = some (.slice A0_1 l0_1.length c0_1) := (blk_cell BK478.out 1).trans rfl
   have hfz7_0 := blk_frozen BK478.out 0
   have hfz7_1 := blk_frozen BK478.out 1
   go_wp2
   go_meet
   case rel => exact ⟨_, (decide ((l0_1.length : Int) > 150)), (by first | rfl | (simp; done) | (simp [*]; done)), H', ⟨by first | omega | exact Nat.le_refl _⟩, ⟨by (with_reducible repeat (first | refine blk_drewN ?_ _ | refine blk_drew ?_ | refine blk_alloc ?_ _)); exact BK478.out⟩, ⟨by repeat (first | (with_reducible first | exact HB.out | apply below_alloc | apply pw_below_drewN | apply below_drew1 | refine below_set ?_ GE478.out) | exact HB.out)⟩⟩
 case rest =>
  clear HC3
  try clear c1
  try clear p2
  try clear c5
  try clear c5b0
  try clear c5b1
  try clear hcz6_0
  try clear hcz6_1
  try clear hcz7_0
  try clear hcz7_1
  try clear hfz6_0
  try clear hfz6_1
  try clear hfz7_0
  try clear hfz7_1
  obtain ⟨kq, x26_2, rfl, HA, HJ2, BK478, HB⟩ := hcut
  cases kq with
  | zero => exact absurd HA.out (by simp [magnetolaw05_StuffParts.j0])
  | succ kj2 =>
   have H := HA.out
   clear HA
   simp only [magnetolaw05_StuffParts.j0] at H
   by_cases c8 : x26_2 = true
   ·
    subst c8
    have H1 : ((magnetolaw05_awake.f kj2).bind fun t479 => (some t479)) = some r := by rw [if_pos rfl] at H; exact H
    clear H
    have H := H1
    clear H1
    replace H := Option.bind_eq_some_iff.mp H
    obtain ⟨t479, A90, H⟩ := H
    replace H : (some t479) = some r := H
    have A9 := Aside0.mk A90
    clear A90
    obtain rfl := Option.some.inj H
    go_wp2_with (first | ((with_reducible refine gate_callee (f := 40) rfl ?_); refine goesL_ (some 27) rfl rfl Try.func40 (by kernel_rfl) rfl #[] rfl (by (try simp only [List.map_toArray, List.map_cons, List.map_nil]); first | done | rfl | (simp only [List.length_drop, List.length_take]; rfl)) ?_; (with_reducible refine (magnetolaw05_awake.calls kj2  t479 _ A9.out).mono ?_); rintro e w10 ⟨rfl, hb⟩; refine ⟨_, rfl, ?_⟩; have n0_ := Aside0.mk (blk_below (g := gb478) (o := .cells #[.slice A0_0 l0_0.length c0_0, .slice A0_1 l0_1.length c0_1] 23 (0, 0)) (by (with_reducible repeat (first | refine blk_drewN ?_ _ | refine blk_drew ?_ | refine blk_alloc ?_ _)); exact BK478.out) hb); have n1_ := Aside0.mk (below_step (by repeat (first | (with_reducible first | exact HB.out | apply below_alloc | apply pw_below_drewN | apply below_drew1 | refine below_set ?_ GE478.out) | exact HB.out)) hb); clear BK478; clear HB; have BK478 := n0_; have HB := n1_; clear n0_ n1_; (try clear hb); (try clear hb2); (try clear hk); (try clear hi)))
    go_ret
    exact ⟨by first | rfl | (simp [errW_none, errW_some] <;> rfl) | (simp [*, errW_none, errW_some] <;> rfl), by repeat (first | (with_reducible first | exact HB.out | apply below_alloc | apply pw_below_drewN | apply below_drew1 | refine below_set ?_ GE478.out) | exact HB.out)⟩
   ·
    replace c8 := Bool.eq_false_iff.mpr c8
    subst c8
    have H1 : ((some (([] : List Int) : List Int)).bind fun y480 => (if y480.length + l0_0.length < 17592186044416 then ((some (y480 ++ l0_0 : List Int)).bind fun y483 => (if y483.length + l0_1.length < 17592186044416 then ((some (y483 ++ l0_1 : List Int)).bind fun y486 => ((bits_Check.f y486).bind fun t489 => (if t489 ≥ 0 then ((stuff_Count.f y486).bind fun t490 => (if t490 = 0 then ((magnetolaw05_awake.f kj2).bind fun t491 => (some t491)) else (none))) else ((stuff_Add.f l0_0).bind fun t492 => ((stuff_Add.f y486).bind fun t495 => (if (t495.length : Int) < (t492.length : Int) then (none) else (if 0 ≤ (t492.length : Int) then (if (t492.length : Int) ≤ (t495.length : Int) then ((magnetolaw05_ints.f kj2 (t495.take ((t492.length : Int) : Int).toNat) t492).bind fun t502 => (magnetolaw05_StuffParts.j1 kj2 a1 y486 t495 (!t502))) else (none)) else (none)))))))) else (none))) else (none))) = some r := by rw [if_neg (show ¬ (false = true) by decide)] at H; exact H
    clear H
    have H := H1
    clear H1
    obtain ⟨y480, hy480⟩ : ∃ y_ : List Int, y_ = (([] : List Int)) := ⟨_, rfl⟩
    replace H : (if y480.length + l0_0.length < 17592186044416 then ((some (y480 ++ l0_0 : List Int)).bind fun y483 => (if y483.length + l0_1.length < 17592186044416 then ((some (y483 ++ l0_1 : List Int)).bind fun y486 => ((bits_Check.f y486).bind fun t489 => (if t489 ≥ 0 then ((stuff_Count.f y486).bind fun t490 => (if t490 = 0 then ((magnetolaw05_awake.f kj2).bind fun t491 => (some t491)) else (none))) else ((stuff_Add.f l0_0).bind fun t492 => ((stuff_Add.f y486).bind fun t495 => (if (t495.length : Int) < (t492.length : Int) then (none) else (if 0 ≤ (t492.length : Int) then (if (t492.length : Int) ≤ (t495.length : Int) then ((magnetolaw05_ints.f kj2 (t495.take ((t492.length : Int) : Int).toNat) t492).bind fun t502 => (magnetolaw05_StuffParts.j1 kj2 a1 y486 t495 (!t502))) else (none)) else (none)))))))) else (none))) else (none)) = some r := by first | (rw [hy480]; with_reducible exact H) | (have H2_ := (Option.bind_some _ _).symm.trans H; rw [hy480]; with_reducible exact H2_) | (have H2_ := (Option.bind_some _ _).symm.trans H; with_reducible exact H2_) | with_reducible exact H | (rw [hy480]; exact H) | exact H
    have Ny480 := Aside0.mk hy480
    clear hy480
    by_cases c11 : y480.length + l0_0.length < 17592186044416
    ·
     rw [if_pos c11] at H
     have LMc11 := Aside0.mk c11
     clear c11
     obtain ⟨y483, hy483⟩ : ∃ y_ : List Int, y_ = (y480 ++ l0_0) := ⟨_, rfl⟩
     replace H : (if y483.length + l0_1.length < 17592186044416 then ((some (y483 ++ l0_1 : List Int)).bind fun y486 => ((bits_Check.f y486).bind fun t489 => (if t489 ≥ 0 then ((stuff_Count.f y486).bind fun t490 => (if t490 = 0 then ((magnetolaw05_awake.f kj2).bind fun t491 => (some t491)) else (none))) else ((stuff_Add.f l0_0).bind fun t492 => ((stuff_Add.f y486).bind fun t495 => (if (t495.length : Int) < (t492.length : Int) then (none) else (if 0 ≤ (t492.length : Int) then (if (t492.length : Int) ≤ (t495.length : Int) then ((magnetolaw05_ints.f kj2 (t495.take ((t492.length : Int) : Int).toNat) t492).bind fun t502 => (magnetolaw05_StuffParts.j1 kj2 a1 y486 t495 (!t502))) else (none)) else (none)))))))) else (none)) = some r := by first | (rw [hy483]; with_reducible exact H) | (have H2_ := (Option.bind_some _ _).symm.trans H; rw [hy483]; with_reducible exact H2_) | (have H2_ := (Option.bind_some _ _).symm.trans H; with_reducible exact H2_) | with_reducible exact H | (rw [hy483]; exact H) | exact H
     have Ny483 := Aside0.mk hy483
     clear hy483
     by_cases c12 : y483.length + l0_1.length < 17592186044416
     ·
      rw [if_pos c12] at H
      have LMc12 := Aside0.mk c12
      clear c12
      obtain ⟨y486, hy486⟩ : ∃ y_ : List Int, y_ = (y483 ++ l0_1) := ⟨_, rfl⟩
      replace H : ((bits_Check.f y486).bind fun t489 => (if t489 ≥ 0 then ((stuff_Count.f y486).bind fun t490 => (if t490 = 0 then ((magnetolaw05_awake.f kj2).bind fun t491 => (some t491)) else (none))) else ((stuff_Add.f l0_0).bind fun t492 => ((stuff_Add.f y486).bind fun t495 => (if (t495.length : Int) < (t492.length : Int) then (none) else (if 0 ≤ (t492.length : Int) then (if (t492.length : Int) ≤ (t495.length : Int) then ((magnetolaw05_ints.f kj2 (t495.take ((t492.length : Int) : Int).toNat) t492).bind fun t502 => (magnetolaw05_StuffParts.j1 kj2 a1 y486 t495 (!t502))) else (none)) else (none))))))) = some r := by first | (rw [hy486]; with_reducible exact H) | (have H2_ := (Option.bind_some _ _).symm.trans H; rw [hy486]; with_reducible exact H2_) | (have H2_ := (Option.bind_some _ _).symm.trans H; with_reducible exact H2_) | with_reducible exact H | (rw [hy486]; exact H) | exact H
      have Ny486 := Aside0.mk hy486
      clear hy486
      replace H := Option.bind_eq_some_iff.mp H
      obtain ⟨t489, A130, H⟩ := H
      replace H : (if t489 ≥ 0 then ((stuff_Count.f y486).bind fun t490 => (if t490 = 0 then ((magnetolaw05_awake.f kj2).bind fun t491 => (some t491)) else (none))) else ((stuff_Add.f l0_0).bind fun t492 => ((stuff_Add.f y486).bind fun t495 => (if (t495.length : Int) < (t492.length : Int) then (none) else (if 0 ≤ (t492.length : Int) then (if (t492.length : Int) ≤ (t495.length : Int) then ((magnetolaw05_ints.f kj2 (t495.take ((t492.length : Int) : Int).toNat) t492).bind fun t502 => (magnetolaw05_StuffParts.j1 kj2 a1 y486 t495 (!t502))) else (none)) else (none)))))) = some r := H
      have A13 := Aside0.mk A130
      clear A130
      by_cases c14 : t489 ≥ 0
      ·
       rw [if_pos c14] at H
       have c14b0 : decide (0 ≤ t489) = true := decide_eq_true c14
       clear c14
       replace H := Option.bind_eq_some_iff.mp H
       obtain ⟨t490, A150, H⟩ := H
       replace H : (if t490 = 0 then ((magnetolaw05_awake.f kj2).bind fun t491 => (some t491)) else (none)) = some r := H
       have A15 := Aside0.mk A150
       clear A150
       by_cases c16 : t490 = 0
       ·
        rw [if_pos c16] at H
        have c16b0 : (t490 == 0) = true := beq_iff_eq.mpr c16
        have c16b1 : (t490 != 0) = false := bne_eq_false_iff_eq.mpr c16
        clear c16
        replace H := Option.bind_eq_some_iff.mp H
        obtain ⟨t491, A170, H⟩ := H
        replace H : (some t491) = some r := H
        have A17 := Aside0.mk A170
        clear A170
        obtain rfl := Option.some.inj H
        try go_wp2
        have n0_ := Aside0.mk (blk_drew BK478.out)
        have n1_ := Aside0.mk (below_drew1 HB.out)
        clear BK478
        clear HB
        have BK478 := n0_
        have HB := n1_
        clear n0_ n1_
        refine start_ (n := 8) (S := fun w' => w'.cell? ⟨gb478, 0, none⟩ = some (.slice A0_0 l0_0.length c0_0) ∧ w'.cell? ⟨gb478, 1, none⟩ = some (.slice A0_1 l0_1.length c0_1)) (ds := []) #[false, false, false, false, false, false, false, false] (by kernel_rfl) rfl rfl ⟨(blk_cell BK478.out 0).trans rfl, (blk_cell BK478.out 1).trans rfl⟩ (fun hHeld => ?_); refine with_tabW magnetolaw05_StuffParts.tab3 magnetolaw05_StuffParts.bits3 (fun HT_ HW_ => ?_)
        generalize wc.drew = w18 at BK478 HB hHeld ⊢
        refine pure_ (i := 1) (N := some 29) (v := ?_) (a' := ?_) #[false, true, false, false, false, false, false, false] rfl rfl (any_of HT_.out (by kernel_rfl)) (fun _ _ _ h => h) (Or.inl ⟨by rfl, ?_⟩) ?_ ?_
        rotate_left
        ·
         intro w'
         go_simp
         with_reducible rfl
        rotate_left
        ·
         simp only [Act.put, List.setIfInBounds_toArray, List.set_cons_zero, List.set_cons_succ, i64_w, i32_w]
         rfl
        refine pure_ (i := 4) (N := some 32) (v := ?_) (a' := ?_) #[false, true, false, false, true, false, false, false] rfl rfl (any_of HT_.out (by kernel_rfl)) (fun _ _ _ h => h) (Or.inl ⟨by rfl, ?_⟩) ?_ ?_
        rotate_left
        ·
         intro w'
         go_simp
         with_reducible rfl
        rotate_left
        ·
         simp only [Act.put, List.setIfInBounds_toArray, List.set_cons_zero, List.set_cons_succ, i64_w, i32_w]
         rfl
        refine take_ (i := 2) (N := some 30) (v := ?_) (a' := ?_) #[false, true, true, false, true, false, false, false] rfl rfl (take_ofW HT_.out HW_.out (by kernel_rfl)) (fun _ _ _ h => h) (Or.inl ⟨by rfl, ?_⟩) hHeld ?_ ?_
        rotate_left
        ·
         rintro w' ⟨s0, s1⟩
         go_simp
         with_reducible rfl
        rotate_left
        ·
         simp only [Act.put, List.setIfInBounds_toArray, List.set_cons_zero, List.set_cons_succ, i64_w, i32_w]
         rfl
        refine take_ (i := 5) (N := some 33) (v := ?_) (a' := ?_) #[false, true, true, false, true, true, false, false] rfl rfl (take_ofW HT_.out HW_.out (by kernel_rfl)) (fun _ _ _ h => h) (Or.inl ⟨by rfl, ?_⟩) hHeld ?_ ?_
        rotate_left
        ·
         rintro w' ⟨s0, s1⟩
         go_simp
         with_reducible rfl
        rotate_left
        ·
         simp only [Act.put, List.setIfInBounds_toArray, List.set_cons_zero, List.set_cons_succ, i64_w, i32_w]
         rfl
        refine one_ (i := 0) (N := some 28) #[true, true, true, false, true, true, false, false] rfl rfl (one_of HT_.out (by kernel_rfl)) (by decide) (fun K hK => ?_)
        refine Kd.R_lit_step (Kd.int .i64) _ 3 ?hg (N := 28) ?hd (xs := ([] : List Int)) (inner := []) (ok := fun _ => True) (okp := fun _ => True) ?hr ?hp (fun _ hk => hk) trivial (Below.refl _ _) (Nat.le_refl _) (by simp) ?_; (case hd => rfl); (case hg => rfl); (case hr => first | (go_simp; done) | (go_simp; rfl)); (case hp => exact (Reps.none _ _))
        intro v481 w19 ho20 hb hg_ hnew_
        clear hg_ hnew_
        (first | rw [← Ny480.out] at ho20 | (simp only [Int.reduceToNat] at ho20; rw [← Ny480.out] at ho20))
        have n0_ := Aside0.mk (Kd.R_lower ho20 (below_size (by repeat (first | (with_reducible first | exact HB.out | apply below_alloc | apply pw_below_drewN | apply below_drew1 | refine below_set ?_ GE478.out) | exact HB.out))))
        have n1_ := Aside0.mk (blk_below (g := gb478) (o := .cells #[.slice A0_0 l0_0.length c0_0, .slice A0_1 l0_1.length c0_1] 23 (0, 0)) (by (with_reducible repeat (first | refine blk_drewN ?_ _ | refine blk_drew ?_ | refine blk_alloc ?_ _)); exact BK478.out) hb)
        have n2_ := Aside0.mk (below_step (by repeat (first | (with_reducible first | exact HB.out | apply below_alloc | apply pw_below_drewN | apply below_drew1 | refine below_set ?_ GE478.out) | exact HB.out)) hb)
        clear BK478
        clear HB
        have HO482 := n0_
        have BK478 := n1_
        have HB := n2_
        clear n0_ n1_ n2_
        clear hb ho20
        refine hK.out _ _ ⟨(blk_cell BK478.out 0).trans rfl, (blk_cell BK478.out 1).trans rfl⟩ (fun hHeld => ?_)
        clear hK K
        refine norm_ (a' := ?_) ?_ ?_
        rotate_left
        ·
         show Act.put _ (some 28) _ = _
         simp only [Act.put, List.setIfInBounds_toArray, List.set_cons_zero, List.set_cons_succ, i64_w, i32_w]
         rfl
        refine one_ (i := 3) (N := some 31) #[true, true, true, true, true, true, false, false] rfl rfl (one_of HT_.out (by kernel_rfl)) (by decide) (fun K hK => ?_)
        refine Kd.R_append_rows_step (Kd.int .i64) (w0 := w) w.heap.size (by rfl) (.tmp 28) (.tmp 30) 22 3 (.int .i64 0) 8 rfl Try.underlying22 info3 rfl (by decide) (by omega) v481 y480 l0_0 _ _ _ (fun _ => True) (fun _ => False) rfl rfl ?aO ?aR (fun _ _ h => h) (fun _ h => h.elim) ?aF ?aB ?aS ?aL ?_
        (case aR => repeat (first | exact (Kd.C_below HR0_0.out HB.out) | (with_reducible refine Kd.C_alloc ?_ _) | (with_reducible refine Kd.C_drewN ?_ _) | (with_reducible refine Kd.C_drew ?_)))
        (case aB => exact (by repeat (first | (with_reducible first | exact HB.out | apply below_alloc | apply pw_below_drewN | apply below_drew1 | refine below_set ?_ GE478.out) | exact HB.out)))
        (case aF => exact (fun _ _ => trivial))
        (case aO => exact (by (with_reducible repeat (first | apply Kd.R_alloc | apply Kd.R_drewN | apply Kd.R_drew)); exact HO482.out))
        (case aS => exact (below_size (by repeat (first | (with_reducible first | exact HB.out | apply below_alloc | apply pw_below_drewN | apply below_drew1 | refine below_set ?_ GE478.out) | exact HB.out))))
        (case aL => have := LMc11.out; omega)
        intro v484 w21 ho hb hg hat
        rw [← Ny483.out] at ho
        have n0_ := Aside0.mk (blk_grown (g := gb478) (o := .cells #[.slice A0_0 l0_0.length c0_0, .slice A0_1 l0_1.length c0_1] 23 (0, 0)) (by (with_reducible repeat (first | refine blk_drewN ?_ _ | refine blk_drew ?_ | refine blk_alloc ?_ _)); exact BK478.out) hg (Kd.R_ne HO482.out BK478.out (by decide)))
        have n1_ := Aside0.mk (hb)
        have n2_ := Aside0.mk (ho)
        clear BK478
        clear HB
        clear HO482
        have BK478 := n0_
        have HB := n1_
        have HO485 := n2_
        clear n0_ n1_ n2_
        clear ho hb hg hat
        refine hK.out _ _ ⟨(blk_cell BK478.out 0).trans rfl, (blk_cell BK478.out 1).trans rfl⟩ (fun hHeld => ?_)
        clear hK K
        refine norm_ (a' := ?_) ?_ ?_
        rotate_left
        ·
         show Act.put _ (some 31) _ = _
         simp only [Act.put, List.setIfInBounds_toArray, List.set_cons_zero, List.set_cons_succ, i64_w, i32_w]
         rfl
        refine one_ (i := 6) (N := some 34) #[true, true, true, true, true, true, true, false] rfl rfl (one_of HT_.out (by kernel_rfl)) (by decide) (fun K hK => ?_)
        refine Kd.R_append_rows_step (Kd.int .i64) (w0 := w) w.heap.size (by rfl) (.tmp 31) (.tmp 33) 22 3 (.int .i64 0) 8 rfl Try.underlying22 info3 rfl (by decide) (by omega) v484 y483 l0_1 _ _ _ (fun _ => True) (fun _ => False) rfl rfl ?aO ?aR (fun _ _ h => h) (fun _ h => h.elim) ?aF ?aB ?aS ?aL ?_
        (case aR => repeat (first | exact (Kd.C_below HR0_1.out HB.out) | (with_reducible refine Kd.C_alloc ?_ _) | (with_reducible refine Kd.C_drewN ?_ _) | (with_reducible refine Kd.C_drew ?_)))
        (case aB => exact (by repeat (first | (with_reducible first | exact HB.out | apply below_alloc | apply pw_below_drewN | apply below_drew1 | refine below_set ?_ GE478.out) | exact HB.out)))
        (case aF => exact (fun _ _ => trivial))
        (case aO => exact (by (with_reducible repeat (first | apply Kd.R_alloc | apply Kd.R_drewN | apply Kd.R_drew)); exact HO485.out))
        (case aS => exact (below_size (by repeat (first | (with_reducible first | exact HB.out | apply below_alloc | apply pw_below_drewN | apply below_drew1 | refine below_set ?_ GE478.out) | exact HB.out))))
        (case aL => have := LMc12.out; omega)
        intro v487 w22 ho hb hg hat
        rw [← Ny486.out] at ho
        have n0_ := Aside0.mk (blk_grown (g := gb478) (o := .cells #[.slice A0_0 l0_0.length c0_0, .slice A0_1 l0_1.length c0_1] 23 (0, 0)) (by (with_reducible repeat (first | refine blk_drewN ?_ _ | refine blk_drew ?_ | refine blk_alloc ?_ _)); exact BK478.out) hg (Kd.R_ne HO485.out BK478.out (by decide)))
        have n1_ := Aside0.mk (hb)
        have n2_ := Aside0.mk (ho)
        clear BK478
        clear HB
        clear HO485
        have BK478 := n0_
        have HB := n1_
        have HO488 := n2_
        clear n0_ n1_ n2_
        clear ho hb hg hat
        refine hK.out _ _ ⟨(blk_cell BK478.out 0).trans rfl, (blk_cell BK478.out 1).trans rfl⟩ (fun hHeld => ?_)
        clear hK K
        refine norm_ (a' := ?_) ?_ ?_
        rotate_left
        ·
         show Act.put _ (some 34) _ = _
         simp only [Act.put, List.setIfInBounds_toArray, List.set_cons_zero, List.set_cons_succ, i64_w, i32_w]
         rfl
        refine pure_ (i := 7) (N := some 5) (v := ?_) (a' := ?_) #[true, true, true, true, true, true, true, true] rfl rfl (any_of HT_.out (by kernel_rfl)) (fun _ _ _ h => h) (Or.inl ⟨by rfl, ?_⟩) ?_ ?_
        rotate_left
        ·
         intro w'
         go_simp
         with_reducible rfl
        rotate_left
        ·
         simp only [Act.put, List.setIfInBounds_toArray, List.set_cons_zero, List.set_cons_succ, i64_w, i32_w]
         rfl
        refine done_ (done_of HT_.out (by kernel_rfl)) ?_
        obtain ⟨Ao23, co23, eo23⟩ := Kd.R_slice HO488.out
        subst eo23
        try go_wp2_with (first | ((with_reducible refine gate_callee (f := 32) rfl ?_); refine goesL_ (some 36) rfl rfl Try.func32 (by kernel_rfl) rfl #[.slice Ao23 y486.length co23] rfl (by (try simp only [List.map_toArray, List.map_cons, List.map_nil]); first | done | rfl | (simp only [List.length_drop, List.length_take]; rfl)) ?_; (with_reducible refine (bits_Check.calls _ _ y486 t489 _ ?side1 ?side2 A13.out).mono ?_); (case side1 => repeat (first | exact (Kd.R_reads' HO488.out).2.2 | (with_reducible refine Kd.C_alloc ?_ _) | (with_reducible refine Kd.C_drewN ?_ _) | (with_reducible refine Kd.C_drew ?_))); (case side2 => exact (Kd.R_reads' HO488.out).2.1); rintro e w' ⟨rfl, ⟨nd, rfl⟩⟩; refine ⟨_, rfl, ?_⟩) | ((with_reducible refine gate_callee (f := 44) rfl ?_); refine goesL_ (some 39) rfl rfl Try.func44 (by kernel_rfl) rfl #[.slice Ao23 y486.length co23] rfl (by (try simp only [List.map_toArray, List.map_cons, List.map_nil]); first | done | rfl | (simp only [List.length_drop, List.length_take]; rfl)) ?_; (with_reducible refine (stuff_Count.calls _ _ y486 t490 _ ?side1 ?side2 A15.out).mono ?_); (case side1 => repeat (first | exact (Kd.R_reads' HO488.out).2.2 | (with_reducible refine Kd.C_alloc ?_ _) | (with_reducible refine Kd.C_drewN ?_ _) | (with_reducible refine Kd.C_drew ?_))); (case side2 => exact (Kd.R_reads' HO488.out).2.1); rintro e w24 ⟨rfl, hb⟩; refine ⟨_, rfl, ?_⟩; have n0_ := Aside0.mk (Kd.R_below (by (with_reducible repeat (first | apply Kd.R_alloc | apply Kd.R_drewN | apply Kd.R_drew)); exact HO488.out) hb); have n1_ := Aside0.mk (blk_below (g := gb478) (o := .cells #[.slice A0_0 l0_0.length c0_0, .slice A0_1 l0_1.length c0_1] 23 (0, 0)) (by (with_reducible repeat (first | refine blk_drewN ?_ _ | refine blk_drew ?_ | refine blk_alloc ?_ _)); exact BK478.out) hb); have n2_ := Aside0.mk (below_step (by repeat (first | (with_reducible first | exact HB.out | apply below_alloc | apply pw_below_drewN | apply below_drew1 | refine below_set ?_ GE478.out) | exact HB.out)) hb); clear HO488; clear BK478; clear HB; have HO488 := n0_; have BK478 := n1_; have HB := n2_; clear n0_ n1_ n2_; (try clear hb); (try clear hb2); (try clear hk); (try clear hi)) | (go_at_call 40; (with_reducible refine (magnetolaw05_awake.calls kj2  t491 _ A17.out).mono ?_); rintro e w25 ⟨rfl, hb⟩; have n0_ := Aside0.mk (Kd.R_below (by (with_reducible repeat (first | apply Kd.R_alloc | apply Kd.R_drewN | apply Kd.R_drew)); exact HO488.out) hb); have n1_ := Aside0.mk (blk_below (g := gb478) (o := .cells #[.slice A0_0 l0_0.length c0_0, .slice A0_1 l0_1.length c0_1] 23 (0, 0)) (by (with_reducible repeat (first | refine blk_drewN ?_ _ | refine blk_drew ?_ | refine blk_alloc ?_ _)); exact BK478.out) hb); have n2_ := Aside0.mk (below_step (by repeat (first | (with_reducible first | exact HB.out | apply below_alloc | apply pw_below_drewN | apply below_drew1 | refine below_set ?_ GE478.out) | exact HB.out)) hb); clear HO488; clear BK478; clear HB; have HO488 := n0_; have BK478 := n1_; have HB := n2_; clear n0_ n1_ n2_; (try clear hb); (try clear hb2); (try clear hk); (try clear hi)))
        go_ret
        exact ⟨by first | rfl | (simp [errW_none, errW_some] <;> rfl) | (simp [*, errW_none, errW_some] <;> rfl), by repeat (first | (with_reducible first | exact HB.out | apply below_alloc | apply pw_below_drewN | apply below_drew1 | refine below_set ?_ GE478.out) | exact HB.out)⟩
       ·
        rw [if_neg c16] at H
        exact absurd H (by simp)
      ·
       rw [if_neg c14] at H
       have c14b0 : decide (0 ≤ t489) = false := decide_eq_false c14
       clear c14
       replace H := Option.bind_eq_some_iff.mp H
       obtain ⟨t492, A260, H⟩ := H
       replace H : ((stuff_Add.f y486).bind fun t495 => (if (t495.length : Int) < (t492.length : Int) then (none) else (if 0 ≤ (t492.length : Int) then (if (t492.length : Int) ≤ (t495.length : Int) then ((magnetolaw05_ints.f kj2 (t495.take ((t492.length : Int) : Int).toNat) t492).bind fun t502 => (magnetolaw05_StuffParts.j1 kj2 a1 y486 t495 (!t502))) else (none)) else (none)))) = some r := H
       have A26 := Aside0.mk A260
       clear A260
       replace H := Option.bind_eq_some_iff.mp H
       obtain ⟨t495, A270, H⟩ := H
       replace H : (if (t495.length : Int) < (t492.length : Int) then (none) else (if 0 ≤ (t492.length : Int) then (if (t492.length : Int) ≤ (t495.length : Int) then ((magnetolaw05_ints.f kj2 (t495.take ((t492.length : Int) : Int).toNat) t492).bind fun t502 => (magnetolaw05_StuffParts.j1 kj2 a1 y486 t495 (!t502))) else (none)) else (none))) = some r := H
       have A27 := Aside0.mk A270
       clear A270
       have HC28 := Aside0.mk H
       clear H
       try go_wp2
       have n0_ := Aside0.mk (blk_drew BK478.out)
       have n1_ := Aside0.mk (below_drew1 HB.out)
       clear BK478
       clear HB
       have BK478 := n0_
       have HB := n1_
       clear n0_ n1_
       refine start_ (n := 8) (S := fun w' => w'.cell? ⟨gb478, 0, none⟩ = some (.slice A0_0 l0_0.length c0_0) ∧ w'.cell? ⟨gb478, 1, none⟩ = some (.slice A0_1 l0_1.length c0_1)) (ds := []) #[false, false, false, false, false, false, false, false] (by kernel_rfl) rfl rfl ⟨(blk_cell BK478.out 0).trans rfl, (blk_cell BK478.out 1).trans rfl⟩ (fun hHeld => ?_); refine with_tabW magnetolaw05_StuffParts.tab3 magnetolaw05_StuffParts.bits3 (fun HT_ HW_ => ?_)
       generalize wc.drew = w29 at BK478 HB hHeld ⊢
       refine pure_ (i := 1) (N := some 29) (v := ?_) (a' := ?_) #[false, true, false, false, false, false, false, false] rfl rfl (any_of HT_.out (by kernel_rfl)) (fun _ _ _ h => h) (Or.inl ⟨by rfl, ?_⟩) ?_ ?_
       rotate_left
       ·
        intro w'
        go_simp
        with_reducible rfl
       rotate_left
       ·
        simp only [Act.put, List.setIfInBounds_toArray, List.set_cons_zero, List.set_cons_succ, i64_w, i32_w]
        rfl
       refine pure_ (i := 4) (N := some 32) (v := ?_) (a' := ?_) #[false, true, false, false, true, false, false, false] rfl rfl (any_of HT_.out (by kernel_rfl)) (fun _ _ _ h => h) (Or.inl ⟨by rfl, ?_⟩) ?_ ?_
       rotate_left
       ·
        intro w'
        go_simp
        with_reducible rfl
       rotate_left
       ·
        simp only [Act.put, List.setIfInBounds_toArray, List.set_cons_zero, List.set_cons_succ, i64_w, i32_w]
        rfl
       refine take_ (i := 2) (N := some 30) (v := ?_) (a' := ?_) #[false, true, true, false, true, false, false, false] rfl rfl (take_ofW HT_.out HW_.out (by kernel_rfl)) (fun _ _ _ h => h) (Or.inl ⟨by rfl, ?_⟩) hHeld ?_ ?_
       rotate_left
       ·
        rintro w' ⟨s0, s1⟩
        go_simp
        with_reducible rfl
       rotate_left
       ·
        simp only [Act.put, List.setIfInBounds_toArray, List.set_cons_zero, List.set_cons_succ, i64_w, i32_w]
        rfl
       refine take_ (i := 5) (N := some 33) (v := ?_) (a' := ?_) #[false, true, true, false, true, true, false, false] rfl rfl (take_ofW HT_.out HW_.out (by kernel_rfl)) (fun _ _ _ h => h) (Or.inl ⟨by rfl, ?_⟩) hHeld ?_ ?_
       rotate_left
       ·
        rintro w' ⟨s0, s1⟩
        go_simp
        with_reducible rfl
       rotate_left
       ·
        simp only [Act.put, List.setIfInBounds_toArray, List.set_cons_zero, List.set_cons_succ, i64_w, i32_w]
        rfl
       refine one_ (i := 0) (N := some 28) #[true, true, true, false, true, true, false, false] rfl rfl (one_of HT_.out (by kernel_rfl)) (by decide) (fun K hK => ?_)
       refine Kd.R_lit_step (Kd.int .i64) _ 3 ?hg (N := 28) ?hd (xs := ([] : List Int)) (inner := []) (ok := fun _ => True) (okp := fun _ => True) ?hr ?hp (fun _ hk => hk) trivial (Below.refl _ _) (Nat.le_refl _) (by simp) ?_; (case hd => rfl); (case hg => rfl); (case hr => first | (go_simp; done) | (go_simp; rfl)); (case hp => exact (Reps.none _ _))
       intro v481 w30 ho31 hb hg_ hnew_
       clear hg_ hnew_
       (first | rw [← Ny480.out] at ho31 | (simp only [Int.reduceToNat] at ho31; rw [← Ny480.out] at ho31))
       have n0_ := Aside0.mk (Kd.R_lower ho31 (below_size (by repeat (first | (with_reducible first | exact HB.out | apply below_alloc | apply pw_below_drewN | apply below_drew1 | refine below_set ?_ GE478.out) | exact HB.out))))
       have n1_ := Aside0.mk (blk_below (g := gb478) (o := .cells #[.slice A0_0 l0_0.length c0_0, .slice A0_1 l0_1.length c0_1] 23 (0, 0)) (by (with_reducible repeat (first | refine blk_drewN ?_ _ | refine blk_drew ?_ | refine blk_alloc ?_ _)); exact BK478.out) hb)
       have n2_ := Aside0.mk (below_step (by repeat (first | (with_reducible first | exact HB.out | apply below_alloc | apply pw_below_drewN | apply below_drew1 | refine below_set ?_ GE478.out) | exact HB.out)) hb)
       clear BK478
       clear HB
       have HO482 := n0_
       have BK478 := n1_
       have HB := n2_
       clear n0_ n1_ n2_
       clear hb ho31
       refine hK.out _ _ ⟨(blk_cell BK478.out 0).trans rfl, (blk_cell BK478.out 1).trans rfl⟩ (fun hHeld => ?_)
       clear hK K
       refine norm_ (a' := ?_) ?_ ?_
       rotate_left
       ·
        show Act.put _ (some 28) _ = _
        simp only [Act.put, List.setIfInBounds_toArray, List.set_cons_zero, List.set_cons_succ, i64_w, i32_w]
        rfl
       refine one_ (i := 3) (N := some 31) #[true, true, true, true, true, true, false, false] rfl rfl (one_of HT_.out (by kernel_rfl)) (by decide) (fun K hK => ?_)
       refine Kd.R_append_rows_step (Kd.int .i64) (w0 := w) w.heap.size (by rfl) (.tmp 28) (.tmp 30) 22 3 (.int .i64 0) 8 rfl Try.underlying22 info3 rfl (by decide) (by omega) v481 y480 l0_0 _ _ _ (fun _ => True) (fun _ => False) rfl rfl ?aO ?aR (fun _ _ h => h) (fun _ h => h.elim) ?aF ?aB ?aS ?aL ?_
       (case aR => repeat (first | exact (Kd.C_below HR0_0.out HB.out) | (with_reducible refine Kd.C_alloc ?_ _) | (with_reducible refine Kd.C_drewN ?_ _) | (with_reducible refine Kd.C_drew ?_)))
       (case aB => exact (by repeat (first | (with_reducible first | exact HB.out | apply below_alloc | apply pw_below_drewN | apply below_drew1 | refine below_set ?_ GE478.out) | exact HB.out)))
       (case aF => exact (fun _ _ => trivial))
       (case aO => exact (by (with_reducible repeat (first | apply Kd.R_alloc | apply Kd.R_drewN | apply Kd.R_drew)); exact HO482.out))
       (case aS => exact (below_size (by repeat (first | (with_reducible first | exact HB.out | apply below_alloc | apply pw_below_drewN | apply below_drew1 | refine below_set ?_ GE478.out) | exact HB.out))))
       (case aL => have := LMc11.out; omega)
       intro v484 w32 ho hb hg hat
       rw [← Ny483.out] at ho
       have n0_ := Aside0.mk (blk_grown (g := gb478) (o := .cells #[.slice A0_0 l0_0.length c0_0, .slice A0_1 l0_1.length c0_1] 23 (0, 0)) (by (with_reducible repeat (first | refine blk_drewN ?_ _ | refine blk_drew ?_ | refine blk_alloc ?_ _)); exact BK478.out) hg (Kd.R_ne HO482.out BK478.out (by decide)))
       have n1_ := Aside0.mk (hb)
       have n2_ := Aside0.mk (ho)
       clear BK478
       clear HB
       clear HO482
       have BK478 := n0_
       have HB := n1_
       have HO485 := n2_
       clear n0_ n1_ n2_
       clear ho hb hg hat
       refine hK.out _ _ ⟨(blk_cell BK478.out 0).trans rfl, (blk_cell BK478.out 1).trans rfl⟩ (fun hHeld => ?_)
       clear hK K
       refine norm_ (a' := ?_) ?_ ?_
       rotate_left
       ·
        show Act.put _ (some 31) _ = _
        simp only [Act.put, List.setIfInBounds_toArray, List.set_cons_zero, List.set_cons_succ, i64_w, i32_w]
        rfl
       refine one_ (i := 6) (N := some 34) #[true, true, true, true, true, true, true, false] rfl rfl (one_of HT_.out (by kernel_rfl)) (by decide) (fun K hK => ?_)
       refine Kd.R_append_rows_step (Kd.int .i64) (w0 := w) w.heap.size (by rfl) (.tmp 31) (.tmp 33) 22 3 (.int .i64 0) 8 rfl Try.underlying22 info3 rfl (by decide) (by omega) v484 y483 l0_1 _ _ _ (fun _ => True) (fun _ => False) rfl rfl ?aO ?aR (fun _ _ h => h) (fun _ h => h.elim) ?aF ?aB ?aS ?aL ?_
       (case aR => repeat (first | exact (Kd.C_below HR0_1.out HB.out) | (with_reducible refine Kd.C_alloc ?_ _) | (with_reducible refine Kd.C_drewN ?_ _) | (with_reducible refine Kd.C_drew ?_)))
       (case aB => exact (by repeat (first | (with_reducible first | exact HB.out | apply below_alloc | apply pw_below_drewN | apply below_drew1 | refine below_set ?_ GE478.out) | exact HB.out)))
       (case aF => exact (fun _ _ => trivial))
       (case aO => exact (by (with_reducible repeat (first | apply Kd.R_alloc | apply Kd.R_drewN | apply Kd.R_drew)); exact HO485.out))
       (case aS => exact (below_size (by repeat (first | (with_reducible first | exact HB.out | apply below_alloc | apply pw_below_drewN | apply below_drew1 | refine below_set ?_ GE478.out) | exact HB.out))))
       (case aL => have := LMc12.out; omega)
       intro v487 w33 ho hb hg hat
       rw [← Ny486.out] at ho
       have n0_ := Aside0.mk (blk_grown (g := gb478) (o := .cells #[.slice A0_0 l0_0.length c0_0, .slice A0_1 l0_1.length c0_1] 23 (0, 0)) (by (with_reducible repeat (first | refine blk_drewN ?_ _ | refine blk_drew ?_ | refine blk_alloc ?_ _)); exact BK478.out) hg (Kd.R_ne HO485.out BK478.out (by decide)))
       have n1_ := Aside0.mk (hb)
       have n2_ := Aside0.mk (ho)
       clear BK478
       clear HB
       clear HO485
       have BK478 := n0_
       have HB := n1_
       have HO488 := n2_
       clear n0_ n1_ n2_
       clear ho hb hg hat
       refine hK.out _ _ ⟨(blk_cell BK478.out 0).trans rfl, (blk_cell BK478.out 1).trans rfl⟩ (fun hHeld => ?_)
       clear hK K
       refine norm_ (a' := ?_) ?_ ?_
       rotate_left
       ·
        show Act.put _ (some 34) _ = _
        simp only [Act.put, List.setIfInBounds_toArray, List.set_cons_zero, List.set_cons_succ, i64_w, i32_w]
        rfl
       refine pure_ (i := 7) (N := some 5) (v := ?_) (a' := ?_) #[true, true, true, true, true, true, true, true] rfl rfl (any_of HT_.out (by kernel_rfl)) (fun _ _ _ h => h) (Or.inl ⟨by rfl, ?_⟩) ?_ ?_
       rotate_left
       ·
        intro w'
        go_simp
        with_reducible rfl
       rotate_left
       ·
        simp only [Act.put, List.setIfInBounds_toArray, List.set_cons_zero, List.set_cons_succ, i64_w, i32_w]
        rfl
       refine done_ (done_of HT_.out (by kernel_rfl)) ?_
       obtain ⟨Ao34, co34, eo34⟩ := Kd.R_slice HO488.out
       subst eo34
       go_upto_region 8 with (first | ((with_reducible refine gate_callee (f := 32) rfl ?_); refine goesL_ (some 36) rfl rfl Try.func32 (by kernel_rfl) rfl #[.slice Ao34 y486.length co34] rfl (by (try simp only [List.map_toArray, List.map_cons, List.map_nil]); first | done | rfl | (simp only [List.length_drop, List.length_take]; rfl)) ?_; (with_reducible refine (bits_Check.calls _ _ y486 t489 _ ?side1 ?side2 A13.out).mono ?_); (case side1 => repeat (first | exact (Kd.R_reads' HO488.out).2.2 | (with_reducible refine Kd.C_alloc ?_ _) | (with_reducible refine Kd.C_drewN ?_ _) | (with_reducible refine Kd.C_drew ?_))); (case side2 => exact (Kd.R_reads' HO488.out).2.1); rintro e w' ⟨rfl, ⟨nd, rfl⟩⟩; refine ⟨_, rfl, ?_⟩; have hcz35_0 : w33.cell? ⟨gb478, 0, none⟩ = some (.slice A0_0 l0_0.length c0_0) := (blk_cell BK478.out 0).trans rfl; have hcz35_1 : w33.cell? ⟨gb478, 1, none⟩ = some (.slice A0_1 l0_1.length c0_1) := (blk_cell BK478.out 1).trans rfl; have hfz35_0 := blk_frozen BK478.out 0; have hfz35_1 := blk_frozen BK478.out 1) | ((with_reducible refine gate_callee (f := 43) rfl ?_); refine goesL_ (some 46) rfl rfl Try.func43 (by kernel_rfl) rfl #[.slice A0_0 l0_0.length c0_0] rfl (by (try simp only [List.map_toArray, List.map_cons, List.map_nil]); first | done | rfl | (simp only [List.length_drop, List.length_take]; rfl)) ?_; (with_reducible refine (stuff_Add.calls _ _ l0_0 t492 _ ?side1 ?side2 A26.out).mono ?_); (case side1 => repeat (first | exact (Kd.C_below HR0_0.out (by repeat (first | (with_reducible first | exact HB.out | apply below_alloc | apply pw_below_drewN | apply below_drew1 | refine below_set ?_ GE478.out) | exact HB.out))) | (with_reducible refine Kd.C_alloc ?_ _) | (with_reducible refine Kd.C_drewN ?_ _) | (with_reducible refine Kd.C_drew ?_))); (case side2 => exact HC0_0.out); rintro e w36 ⟨v493, rfl, ho0, hb⟩; refine ⟨_, rfl, ?_⟩; have n0_ := Aside0.mk (Kd.R_elder' (by (with_reducible repeat (first | apply Kd.R_alloc | apply Kd.R_drewN | apply Kd.R_drew)); exact HO488.out) (Kd.R_base ho0) hb); have n1_ := Aside0.mk (Kd.R_lower (Kd.R_new' ho0 (Kd.R_lt (by (with_reducible repeat (first | apply Kd.R_alloc | apply Kd.R_drewN | apply Kd.R_drew)); exact HO488.out))) (below_size (by repeat (first | (with_reducible first | exact HB.out | apply below_alloc | apply pw_below_drewN | apply below_drew1 | refine below_set ?_ GE478.out) | exact HB.out)))); have n2_ := Aside0.mk (blk_below (g := gb478) (o := .cells #[.slice A0_0 l0_0.length c0_0, .slice A0_1 l0_1.length c0_1] 23 (0, 0)) (by (with_reducible repeat (first | refine blk_drewN ?_ _ | refine blk_drew ?_ | refine blk_alloc ?_ _)); exact BK478.out) hb); have n3_ := Aside0.mk (below_step (by repeat (first | (with_reducible first | exact HB.out | apply below_alloc | apply pw_below_drewN | apply below_drew1 | refine below_set ?_ GE478.out) | exact HB.out)) hb); clear HO488; clear BK478; clear HB; have HO488 := n0_; have HO494 := n1_; have BK478 := n2_; have HB := n3_; clear n0_ n1_ n2_ n3_; (try clear hb); (try clear hb2); (try clear hk); (try clear hi); (try clear ho0)) | ((with_reducible refine gate_callee (f := 43) rfl ?_); refine goesL_ (some 48) rfl rfl Try.func43 (by kernel_rfl) rfl #[.slice Ao34 y486.length co34] rfl (by (try simp only [List.map_toArray, List.map_cons, List.map_nil]); first | done | rfl | (simp only [List.length_drop, List.length_take]; rfl)) ?_; (with_reducible refine (stuff_Add.calls _ _ y486 t495 _ ?side1 ?side2 A27.out).mono ?_); (case side1 => repeat (first | exact (Kd.R_reads' HO488.out).2.2 | (with_reducible refine Kd.C_alloc ?_ _) | (with_reducible refine Kd.C_drewN ?_ _) | (with_reducible refine Kd.C_drew ?_))); (case side2 => exact (Kd.R_reads' HO488.out).2.1); rintro e w37 ⟨v496, rfl, ho0, hb⟩; refine ⟨_, rfl, ?_⟩; have n0_ := Aside0.mk (Kd.R_elder' (by (with_reducible repeat (first | apply Kd.R_alloc | apply Kd.R_drewN | apply Kd.R_drew)); exact HO488.out) (Kd.R_base ho0) hb); have n1_ := Aside0.mk (Kd.R_elder' (by (with_reducible repeat (first | apply Kd.R_alloc | apply Kd.R_drewN | apply Kd.R_drew)); exact HO494.out) (Kd.R_base ho0) hb); have n2_ := Aside0.mk (Kd.R_lower (Kd.R_new' (Kd.R_new' ho0 (Kd.R_lt (by (with_reducible repeat (first | apply Kd.R_alloc | apply Kd.R_drewN | apply Kd.R_drew)); exact HO488.out))) (Kd.R_lt (by (with_reducible repeat (first | apply Kd.R_alloc | apply Kd.R_drewN | apply Kd.R_drew)); exact HO494.out))) (below_size (by repeat (first | (with_reducible first | exact HB.out | apply below_alloc | apply pw_below_drewN | apply below_drew1 | refine below_set ?_ GE478.out) | exact HB.out)))); have n3_ := Aside0.mk (blk_below (g := gb478) (o := .cells #[.slice A0_0 l0_0.length c0_0, .slice A0_1 l0_1.length c0_1] 23 (0, 0)) (by (with_reducible repeat (first | refine blk_drewN ?_ _ | refine blk_drew ?_ | refine blk_alloc ?_ _)); exact BK478.out) hb); have n4_ := Aside0.mk (below_step (by repeat (first | (with_reducible first | exact HB.out | apply below_alloc | apply pw_below_drewN | apply below_drew1 | refine below_set ?_ GE478.out) | exact HB.out)) hb); clear HO488; clear HO494; clear BK478; clear HB; have HO488 := n0_; have HO494 := n1_; have HO497 := n2_; have BK478 := n3_; have HB := n4_; clear n0_ n1_ n2_ n3_ n4_; (try clear hb); (try clear hb2); (try clear hk); (try clear hi); (try clear ho0)))
       (try simp only [Act.put, List.setIfInBounds_toArray, List.set_cons_zero, List.set_cons_succ])
       go_cut [62] (fun v62 wc => ∃ (kq : Nat) (x62_27 : Bool), v62 = .bool x62_27 ∧ Aside0 (magnetolaw05_StuffParts.j1 kq a1 y486 t495 x62_27 = some r) ∧ Aside0 (kq ≤ kj2) ∧ Aside0 (Kd.R (Kd.int .i64) 3 wc w.heap.size (fun k_ => some k_ ≠ (v496 : Value).ownBlock) (.slice Ao34 y486.length co34) y486) ∧ Aside0 (Kd.R (Kd.int .i64) 3 wc w.heap.size (fun k_ => some k_ ≠ ((.slice Ao34 y486.length co34) : Value).ownBlock) v496 t495) ∧ Aside0 (wc.heap[gb478]? = some (.cells #[(.slice A0_0 l0_0.length c0_0), (.slice A0_1 l0_1.length c0_1)] 23 (0, 0))) ∧ Aside0 (Below w.heap.size w wc))
       case first =>
        have H := HC28.out
        clear HC28
        by_cases c38 : (t495.length : Int) < (t492.length : Int)
        ·
         rw [if_pos c38] at H
         exact absurd H (by simp)
        ·
         rw [if_neg c38] at H
         have c38b0 : decide ((t495.length : Int) < (t492.length : Int)) = false := decide_eq_false c38
         have c38b1 : decide (t495.length < t492.length) = false := decide_eq_false (fun h => c38 (Int.ofNat_lt.mpr h))
         clear c38
         (first | rw [c38b0] | (simp only [i64_w, i32_w]; rw [c38b0]) | skip)
         by_cases c39 : 0 ≤ (t492.length : Int)
         ·
          rw [if_pos c39] at H
          have c39b0 := eq_true c39
          have c39b1 : decide (0 ≤ (t492.length : Int)) = true := decide_eq_true c39
          clear c39
          by_cases c40 : (t492.length : Int) ≤ (t495.length : Int)
          ·
           rw [if_pos c40] at H
           have c40b0 := eq_true c40
           have c40b1 : decide ((t492.length : Int) ≤ (t495.length : Int)) = true := decide_eq_true c40
           clear c40
           obtain ⟨y498, hy498⟩ : ∃ y_ : List Int, y_ = (t495.take ((t492.length : Int) : Int).toNat) := ⟨_, rfl⟩
           replace H : ((magnetolaw05_ints.f kj2 y498 t492).bind fun t502 => (magnetolaw05_StuffParts.j1 kj2 a1 y486 t495 (!t502))) = some r := by first | (rw [hy498]; with_reducible exact H) | (have H2_ := (Option.bind_some _ _).symm.trans H; rw [hy498]; with_reducible exact H2_) | (have H2_ := (Option.bind_some _ _).symm.trans H; with_reducible exact H2_) | with_reducible exact H | (rw [hy498]; exact H) | exact H
           have Ny498 := Aside0.mk hy498
           clear hy498
           replace H := Option.bind_eq_some_iff.mp H
           obtain ⟨t502, A410, H⟩ := H
           replace H : (magnetolaw05_StuffParts.j1 kj2 a1 y486 t495 (!t502)) = some r := H
           have A41 := Aside0.mk A410
           clear A410
           have H' := Aside0.mk H
           clear H
           obtain ⟨Ao42, co42, eo42⟩ := Kd.R_slice HO497.out
           subst eo42
           obtain ⟨Ao43, co43, eo43⟩ := Kd.R_slice HO494.out
           subst eo43
           have q44 : ((t492.length : Int) : Int) ≤ ((t495.length : Int) : Int) := of_decide_eq_true (by first | (with_reducible assumption) | assumption)
           obtain ⟨i044, hi044, _, hsz44, _⟩ := info_parts info3
           have hroom44 : t495.length ≤ co42 := (Kd.R_reads' HO497.out).2.1
           have hC44 : Kd.C (Kd.int .i64) _ Ao42 t495.length t495 := (Kd.R_reads' HO497.out).2.2
           have hcut44 := cut_to (P := Try.prog) 22 3 .i64 Try.underlying22 hi044 Ao42 t495.length co42 (t492.length : Int) (of_decide_eq_true (by first | (with_reducible assumption) | assumption)) q44 hroom44
           have hr44 := Kd.C_take (m := ((t492.length : Int) : Int).toNat) hC44 (by omega)
           have hy44 : y498.length = ((t492.length : Int) : Int).toNat := (by rw [Ny498.out, List.length_take]; omega)
           rw [← Ny498.out] at hr44
           rw [← hy44] at hcut44
           have HR501 := Aside0.mk hr44
           have HC501 := Aside0.mk (show y498.length ≤ co42 from by omega)
           clear hr44 hC44 hroom44 hi044 hsz44
           have KY44 := Aside0.mk hy44
           clear hy44
           have KL44 := Aside0.mk (show ((t492.length : Int) : Int).toNat ≤ t495.length from by omega)
           replace q44 := eq_true q44
           go_wp2_with (first | (go_at_call 42; (with_reducible refine (magnetolaw05_ints.calls kj2 _ _ y498 _ _ t492 t502 _ ?side1 ?side2 ?side3 ?side4 A41.out).mono ?_); (case side1 => repeat (first | exact (by repeat (first | (with_reducible exact HR501.out) | (with_reducible refine Kd.C_alloc ?_ _) | (with_reducible refine Kd.C_drewN ?_ _) | (with_reducible refine Kd.C_drew ?_) | exact HR501.out)) | (with_reducible refine Kd.C_alloc ?_ _) | (with_reducible refine Kd.C_drewN ?_ _) | (with_reducible refine Kd.C_drew ?_))); (case side2 => exact HC501.out); (case side3 => repeat (first | exact (Kd.R_reads' HO494.out).2.2 | (with_reducible refine Kd.C_alloc ?_ _) | (with_reducible refine Kd.C_drewN ?_ _) | (with_reducible refine Kd.C_drew ?_))); (case side4 => exact (Kd.R_reads' HO494.out).2.1); rintro e w' ⟨rfl, ⟨nd, rfl⟩⟩))
           go_meet
           case rel => exact ⟨_, (!t502), (by first | rfl | (simp; done) | (simp [*]; done)), H', ⟨by have := HJ2.out; first | omega | exact Nat.le_refl _⟩, ⟨by (with_reducible repeat (first | apply Kd.R_alloc | apply Kd.R_drewN | apply Kd.R_drew)); exact Kd.R_mono HO488.out (fun _ hk => hk.2)⟩, ⟨by (with_reducible repeat (first | apply Kd.R_alloc | apply Kd.R_drewN | apply Kd.R_drew)); exact Kd.R_mono HO497.out (fun _ hk => hk.1.2)⟩, ⟨by (with_reducible repeat (first | refine blk_drewN ?_ _ | refine blk_drew ?_ | refine blk_alloc ?_ _)); exact BK478.out⟩, ⟨by repeat (first | (with_reducible first | exact HB.out | apply below_alloc | apply pw_below_drewN | apply below_drew1 | refine below_set ?_ GE478.out) | exact HB.out)⟩⟩
          ·
           rw [if_neg c40] at H
           exact absurd H (by simp)
         ·
          rw [if_neg c39] at H
          exact absurd H (by simp)
       case rest =>
        clear HC28
        try clear c1
        try clear p2
        try clear c3
        try clear c4
        try clear q4
        try clear c5
        try clear c5b0
        try clear c5b1
        try clear c8
        try clear c10
        try clear c11
        try clear c12
        try clear c14
        try clear c14b0
        try clear c16
        try clear c16b0
        try clear c16b1
        try clear c32
        try clear c38
        try clear c38b0
        try clear c38b1
        try clear c39
        try clear c39b0
        try clear c39b1
        try clear c40
        try clear c40b0
        try clear c40b1
        try clear c43
        try clear c44
        try clear q44
        try clear hcz35_0
        try clear hcz35_1
        try clear hcz6_0
        try clear hcz6_1
        try clear hcz7_0
        try clear hcz7_1
        try clear hfz35_0
        try clear hfz35_1
        try clear hfz6_0
        try clear hfz6_1
        try clear hfz7_0
        try clear hfz7_1
        try clear p2
        try clear q44
        obtain ⟨kq, x62_27, rfl, HA, HJ27, HO_5, HO_7, BK478, HB⟩ := hcut
        cases kq with
        | zero => exact absurd HA.out (by simp [magnetolaw05_StuffParts.j1])
        | succ kj27 =>
         have H := HA.out
         clear HA
         simp only [magnetolaw05_StuffParts.j1] at H
         by_cases c45 : x62_27 = true
         ·
          subst c45
          have H1 : (none) = some r := by rw [if_pos rfl] at H; exact H
          clear H
          have H := H1
          clear H1
          exact absurd H (by simp)
         ·
          replace c45 := Bool.eq_false_iff.mpr c45
          subst c45
          have H1 : (magnetolaw05_StuffParts.l0 kj27 a1 y486 t495 (([] : List Int)) 0) = some r := by rw [if_neg (show ¬ (false = true) by decide)] at H; exact H
          clear H
          have H := H1
          clear H1
          obtain ⟨y503, hy503⟩ : ∃ y_ : List Int, y_ = (([] : List Int)) := ⟨_, rfl⟩
          replace H : (magnetolaw05_StuffParts.l0 kj27 a1 y486 t495 y503 0) = some r := by first | (rw [hy503]; with_reducible exact H) | (have H2_ := (Option.bind_some _ _).symm.trans H; rw [hy503]; with_reducible exact H2_) | (have H2_ := (Option.bind_some _ _).symm.trans H; with_reducible exact H2_) | with_reducible exact H | (rw [hy503]; exact H) | exact H
          have Ny503 := Aside0.mk hy503
          clear hy503
          have H' := Aside0.mk H
          clear H
          go_wp2_with (first | ((with_reducible refine gate_dst (N := 63) rfl ?_); (try (refine gate_guard (by rfl) ?_; dsimp only)); refine Kd.R_lit (Kd.int .i64) _ 3 ?hg (N := 63) ?hd (xs := ([] : List Int)) (inner := []) (ok := fun _ => True) (okp := fun _ => True) ?hr ?hp (fun _ hk => hk) trivial (Below.refl _ _) (Nat.le_refl _) (by simp) ?_; (case hd => rfl); (case hg => rfl); (case hr => first | (go_simp; done) | (go_simp; rfl)); (case hp => exact (Reps.none _ _)); intro v504 w46 ho47 hb hg_ hnew_; clear hg_ hnew_; (first | rw [← Ny503.out] at ho47 | (simp only [Int.reduceToNat] at ho47; rw [← Ny503.out] at ho47)); have n0_ := Aside0.mk (Kd.R_elder' (by (with_reducible repeat (first | apply Kd.R_alloc | apply Kd.R_drewN | apply Kd.R_drew)); exact HO_5.out) (Kd.R_base ho47) hb); have n1_ := Aside0.mk (Kd.R_elder' (by (with_reducible repeat (first | apply Kd.R_alloc | apply Kd.R_drewN | apply Kd.R_drew)); exact HO_7.out) (Kd.R_base ho47) hb); have n2_ := Aside0.mk (Kd.R_lower (Kd.R_new' (Kd.R_new' ho47 (Kd.R_lt (by (with_reducible repeat (first | apply Kd.R_alloc | apply Kd.R_drewN | apply Kd.R_drew)); exact HO_5.out))) (Kd.R_lt (by (with_reducible repeat (first | apply Kd.R_alloc | apply Kd.R_drewN | apply Kd.R_drew)); exact HO_7.out))) (below_size (by repeat (first | (with_reducible first | exact HB.out | apply below_alloc | apply pw_below_drewN | apply below_drew1 | refine below_set ?_ GE478.out) | exact HB.out)))); have n3_ := Aside0.mk (blk_below (g := gb478) (o := .cells #[.slice A0_0 l0_0.length c0_0, .slice A0_1 l0_1.length c0_1] 23 (0, 0)) (by (with_reducible repeat (first | refine blk_drewN ?_ _ | refine blk_drew ?_ | refine blk_alloc ?_ _)); exact BK478.out) hb); have n4_ := Aside0.mk (below_step (by repeat (first | (with_reducible first | exact HB.out | apply below_alloc | apply pw_below_drewN | apply below_drew1 | refine below_set ?_ GE478.out) | exact HB.out)) hb); clear HO_5; clear HO_7; clear BK478; clear HB; have HO_5 := n0_; have HO_7 := n1_; have HO505 := n2_; have BK478 := n3_; have HB := n4_; clear n0_ n1_ n2_ n3_ n4_; clear hb ho47))
          go_loopg [8, 9] kj27 (fun kq v8 v9 w' => ∃ (x8_3 : List Int) (x9_3 : Int), v9 = .int .i64 x9_3 ∧ Aside0 (magnetolaw05_StuffParts.l0 kq a1 y486 t495 x8_3 x9_3 = some r) ∧ Aside0 (kq ≤ kj27) ∧ Aside0 (Kd.R (Kd.int .i64) 3 w' w.heap.size (fun k_ => some k_ ≠ (v496 : Value).ownBlock ∧ some k_ ≠ (v8 : Value).ownBlock) (.slice Ao34 y486.length co34) y486) ∧ Aside0 (Kd.R (Kd.int .i64) 3 w' w.heap.size (fun k_ => some k_ ≠ ((.slice Ao34 y486.length co34) : Value).ownBlock ∧ some k_ ≠ (v8 : Value).ownBlock) v496 t495) ∧ Aside0 (Kd.R (Kd.int .i64) 3 w' w.heap.size (fun k_ => some k_ ≠ ((.slice Ao34 y486.length co34) : Value).ownBlock ∧ some k_ ≠ (v496 : Value).ownBlock) v8 x8_3) ∧ Aside0 (w'.heap[gb478]? = some (.cells #[(.slice A0_0 l0_0.length c0_0), (.slice A0_1 l0_1.length c0_1)] 23 (0, 0))) ∧ Aside0 (Below w.heap.size w w'))
          case atStart => exact ⟨(y503), (0), (by first | rfl | (simp; done) | (simp [*]; done)), H', ⟨Nat.le_refl _⟩, ⟨by (with_reducible repeat (first | apply Kd.R_alloc | apply Kd.R_drewN | apply Kd.R_drew)); exact HO_5.out⟩, ⟨by (with_reducible repeat (first | apply Kd.R_alloc | apply Kd.R_drewN | apply Kd.R_drew)); exact HO_7.out⟩, ⟨by (with_reducible repeat (first | apply Kd.R_alloc | apply Kd.R_drewN | apply Kd.R_drew)); exact Kd.R_mono HO505.out (fun _ hk => ⟨hk.1.2, hk.2⟩)⟩, ⟨by (with_reducible repeat (first | refine blk_drewN ?_ _ | refine blk_drew ?_ | refine blk_alloc ?_ _)); exact BK478.out⟩, ⟨by repeat (first | (with_reducible first | exact HB.out | apply below_alloc | apply pw_below_drewN | apply below_drew1 | refine below_set ?_ GE478.out) | exact HB.out)⟩⟩
          case round =>
           clear H'
           try clear c1
           try clear p2
           try clear c3
           try clear c4
           try clear q4
           try clear c5
           try clear c5b0
           try clear c5b1
           try clear c8
           try clear c10
           try clear c11
           try clear c12
           try clear c14
           try clear c14b0
           try clear c16
           try clear c16b0
           try clear c16b1
           try clear c32
           try clear c38
           try clear c38b0
           try clear c38b1
           try clear c39
           try clear c39b0
           try clear c39b1
           try clear c40
           try clear c40b0
           try clear c40b1
           try clear c43
           try clear c44
           try clear q44
           try clear c45
           try clear hcz35_0
           try clear hcz35_1
           try clear hcz6_0
           try clear hcz6_1
           try clear hcz7_0
           try clear hcz7_1
           try clear hfz35_0
           try clear hfz35_1
           try clear hfz6_0
           try clear hfz6_1
           try clear hfz7_0
           try clear hfz7_1
           try clear p2
           try clear q4
           try clear q44
           obtain ⟨x8_3, x9_3, rfl, HA, HK3, HO_5, HO_7, HO_8, BK478, HB⟩ := hrel
           cases gk with
           | zero => exact absurd HA.out (by simp [magnetolaw05_StuffParts.l0])
           | succ k3 =>
            have H := HA.out
            clear HA
            simp only [magnetolaw05_StuffParts.l0] at H
            by_cases c48 : x9_3 < (y486.length : Int)
            ·
             rw [if_pos c48] at H
             have c48b0 : decide (x9_3 < (y486.length : Int)) = true := decide_eq_true c48
             clear c48
             by_cases c49 : 0 ≤ x9_3
             ·
              rw [if_pos c49] at H
              have c49b0 : decide (0 ≤ x9_3) = true := decide_eq_true c49
              clear c49
              by_cases c50 : x8_3.length < 17592186044416
              ·
               rw [if_pos c50] at H
               have LMc50 := Aside0.mk c50
               clear c50
               obtain ⟨y507, hy507⟩ : ∃ y_ : List Int, y_ = (x8_3 ++ [wrap64 (1 - (rd y486 x9_3))]) := ⟨_, rfl⟩
               replace H : (magnetolaw05_StuffParts.l0 k3 a1 y486 t495 y507 (wrap64 (x9_3 + 1))) = some r := by first | (rw [hy507]; with_reducible exact H) | (have H2_ := (Option.bind_some _ _).symm.trans H; rw [hy507]; with_reducible exact H2_) | (have H2_ := (Option.bind_some _ _).symm.trans H; with_reducible exact H2_) | with_reducible exact H | (rw [hy507]; exact H) | exact H
               have Ny507 := Aside0.mk hy507
               clear hy507
               have H' := Aside0.mk H
               clear H
               have p506 : 0 ≤ (x9_3 : Int) := of_decide_eq_true (by first | (with_reducible assumption) | assumption)
               have q506 : x9_3 < (y486.length : Int) := of_decide_eq_true (by first | (with_reducible assumption) | assumption)
               obtain ⟨ad506, e506, hx506_0⟩ := Kd.at_int (Kd.R_reads' HO_5.out).2.2 x9_3 p506 q506
               cases e506
               replace p506 := eq_true p506
               replace q506 := eq_true q506
               go_wp2_with (first | ((with_reducible refine gate_builtin (b := .append) (xs := #[.tmp 70, .tmp 76]) rfl ?_); (try (refine gate_guard (by rfl) ?_; dsimp only)); at_builtin; refine Kd.R_append (Kd.int .i64) (w0 := w) w.heap.size rfl (.tmp 70) (.tmp 76) 22 3 (.int .i64 0) 8 rfl Try.underlying22 info3 rfl (by decide) (by omega) u8 x8_3 (wrap64 (1 - (rd y486 x9_3))) [.int .i64 (wrap64 (1 - (rd y486 x9_3)))] (fun k_ => some k_ ≠ (.slice (some ad506) y486.length co34 : Value).ownBlock ∧ some k_ ≠ (v496 : Value).ownBlock) (fun _ => False) rfl rfl ?aP (fun _ hk => hk.elim) ?aF ?aO ?aB ?aS ?aL ?_; (case aP => exact rfl); (case aB => exact (by repeat (first | (with_reducible first | exact HB.out | apply below_alloc | apply pw_below_drewN | apply below_drew1 | refine below_set ?_ GE478.out) | exact HB.out))); (case aF => exact (fun k_ hk => ⟨Kd.fresh' (Kd.R_lt (by (with_reducible repeat (first | apply Kd.R_alloc | apply Kd.R_drewN | apply Kd.R_drew)); exact HO_5.out)) k_ hk, Kd.fresh' (Kd.R_lt (by (with_reducible repeat (first | apply Kd.R_alloc | apply Kd.R_drewN | apply Kd.R_drew)); exact HO_7.out)) k_ hk⟩)); (case aO => exact (by (with_reducible repeat (first | apply Kd.R_alloc | apply Kd.R_drewN | apply Kd.R_drew)); exact HO_8.out)); (case aS => exact (below_size (by repeat (first | (with_reducible first | exact HB.out | apply below_alloc | apply pw_below_drewN | apply below_drew1 | refine below_set ?_ GE478.out) | exact HB.out)))); (case aL => have := LMc50.out; omega); intro v508 w51 ho hb hg hat; rw [← Ny507.out] at ho; have n0_ := Aside0.mk (Kd.R_after (ok := (fun k_ => some k_ ≠ (v496 : Value).ownBlock)) (by (with_reducible repeat (first | apply Kd.R_alloc | apply Kd.R_drewN | apply Kd.R_drew)); exact HO_5.out) hg hat); have n1_ := Aside0.mk (Kd.R_after (ok := (fun k_ => some k_ ≠ (.slice (some ad506) y486.length co34 : Value).ownBlock)) (by (with_reducible repeat (first | apply Kd.R_alloc | apply Kd.R_drewN | apply Kd.R_drew)); exact HO_7.out) hg hat); have n2_ := Aside0.mk (blk_grown (g := gb478) (o := .cells #[.slice A0_0 l0_0.length c0_0, .slice A0_1 l0_1.length c0_1] 23 (0, 0)) (by (with_reducible repeat (first | refine blk_drewN ?_ _ | refine blk_drew ?_ | refine blk_alloc ?_ _)); exact BK478.out) hg (Kd.R_ne HO_8.out BK478.out (by decide))); have n3_ := Aside0.mk (hb); have n4_ := Aside0.mk (ho); clear HO_5; clear HO_7; clear BK478; clear HB; clear HO_8; have HO_5 := n0_; have HO_7 := n1_; have BK478 := n2_; have HB := n3_; have HO509 := n4_; clear n0_ n1_ n2_ n3_ n4_; clear ho hb hg hat))
               go_roundg k3
               case measure => have := HJ2.out; have := HJ27.out; have := HK3.out; omega
               case rel => exact ⟨(y507), (wrap64 (x9_3 + 1)), (by first | rfl | (simp; done) | (simp [*]; done)), H', ⟨by have := HJ2.out; have := HJ27.out; have := HK3.out; omega⟩, ⟨by (with_reducible repeat (first | apply Kd.R_alloc | apply Kd.R_drewN | apply Kd.R_drew)); exact HO_5.out⟩, ⟨by (with_reducible repeat (first | apply Kd.R_alloc | apply Kd.R_drewN | apply Kd.R_drew)); exact HO_7.out⟩, ⟨by (with_reducible repeat (first | apply Kd.R_alloc | apply Kd.R_drewN | apply Kd.R_drew)); exact HO509.out⟩, ⟨by (with_reducible repeat (first | refine blk_drewN ?_ _ | refine blk_drew ?_ | refine blk_alloc ?_ _)); exact BK478.out⟩, ⟨by repeat (first | (with_reducible first | exact HB.out | apply below_alloc | apply pw_below_drewN | apply below_drew1 | refine below_set ?_ GE478.out) | exact HB.out)⟩⟩
              ·
               rw [if_neg c50] at H
               exact absurd H (by simp)
             ·
              rw [if_neg c49] at H
              exact absurd H (by simp)
            ·
             rw [if_neg c48] at H
             have c48b0 : decide (x9_3 < (y486.length : Int)) = false := decide_eq_false c48
             clear c48
             replace H := Option.bind_eq_some_iff.mp H
             obtain ⟨t510, A520, H⟩ := H
             replace H : (if (t510.length : Int) = (t495.length : Int) then (magnetolaw05_StuffParts.l1 k3 a1 t495 t510 0) else (none)) = some r := H
             have A52 := Aside0.mk A520
             clear A520
             by_cases c53 : (t510.length : Int) = (t495.length : Int)
             ·
              rw [if_pos c53] at H
              have c53b0 : ((t510.length : Int) == (t495.length : Int)) = true := beq_iff_eq.mpr c53
              have c53b1 : ((t510.length : Int) != (t495.length : Int)) = false := bne_eq_false_iff_eq.mpr c53
              have c53b2 : (t510.length == t495.length) = true := by first | simpa using c53 | (simp at c53 ⊢; omega)
              clear c53
              have H' := Aside0.mk H
              clear H
              obtain ⟨Ao54, co54, eo54⟩ := Kd.R_slice HO_8.out
              subst eo54
              go_wp2_with (first | ((with_reducible refine gate_callee (f := 43) rfl ?_); refine goesL_ (some 79) rfl rfl Try.func43 (by kernel_rfl) rfl #[.slice Ao54 x8_3.length co54] rfl (by (try simp only [List.map_toArray, List.map_cons, List.map_nil]); first | done | rfl | (simp only [List.length_drop, List.length_take]; rfl)) ?_; (with_reducible refine (stuff_Add.calls _ _ x8_3 t510 _ ?side1 ?side2 A52.out).mono ?_); (case side1 => repeat (first | exact (Kd.R_reads' HO_8.out).2.2 | (with_reducible refine Kd.C_alloc ?_ _) | (with_reducible refine Kd.C_drewN ?_ _) | (with_reducible refine Kd.C_drew ?_))); (case side2 => exact (Kd.R_reads' HO_8.out).2.1); rintro e w55 ⟨v511, rfl, ho0, hb⟩; refine ⟨_, rfl, ?_⟩; have n0_ := Aside0.mk (Kd.R_elder' (by (with_reducible repeat (first | apply Kd.R_alloc | apply Kd.R_drewN | apply Kd.R_drew)); exact HO_5.out) (Kd.R_base ho0) hb); have n1_ := Aside0.mk (Kd.R_elder' (by (with_reducible repeat (first | apply Kd.R_alloc | apply Kd.R_drewN | apply Kd.R_drew)); exact HO_7.out) (Kd.R_base ho0) hb); have n2_ := Aside0.mk (Kd.R_elder' (by (with_reducible repeat (first | apply Kd.R_alloc | apply Kd.R_drewN | apply Kd.R_drew)); exact HO_8.out) (Kd.R_base ho0) hb); have n3_ := Aside0.mk (Kd.R_lower (Kd.R_new' (Kd.R_new' (Kd.R_new' ho0 (Kd.R_lt (by (with_reducible repeat (first | apply Kd.R_alloc | apply Kd.R_drewN | apply Kd.R_drew)); exact HO_5.out))) (Kd.R_lt (by (with_reducible repeat (first | apply Kd.R_alloc | apply Kd.R_drewN | apply Kd.R_drew)); exact HO_7.out))) (Kd.R_lt (by (with_reducible repeat (first | apply Kd.R_alloc | apply Kd.R_drewN | apply Kd.R_drew)); exact HO_8.out))) (below_size (by repeat (first | (with_reducible first | exact HB.out | apply below_alloc | apply pw_below_drewN | apply below_drew1 | refine below_set ?_ GE478.out) | exact HB.out)))); have n4_ := Aside0.mk (blk_below (g := gb478) (o := .cells #[.slice A0_0 l0_0.length c0_0, .slice A0_1 l0_1.length c0_1] 23 (0, 0)) (by (with_reducible repeat (first | refine blk_drewN ?_ _ | refine blk_drew ?_ | refine blk_alloc ?_ _)); exact BK478.out) hb); have n5_ := Aside0.mk (below_step (by repeat (first | (with_reducible first | exact HB.out | apply below_alloc | apply pw_below_drewN | apply below_drew1 | refine below_set ?_ GE478.out) | exact HB.out)) hb); clear HO_5; clear HO_7; clear HO_8; clear BK478; clear HB; have HO_5 := n0_; have HO_7 := n1_; have HO_8 := n2_; have HO512 := n3_; have BK478 := n4_; have HB := n5_; clear n0_ n1_ n2_ n3_ n4_ n5_; (try clear hb); (try clear hb2); (try clear hk); (try clear hi); (try clear ho0); obtain ⟨Ao56, co56, eo56⟩ := Kd.R_slice HO512.out; subst eo56; obtain ⟨Ao57, co57, eo57⟩ := Kd.R_slice HO_7.out; subst eo57))
              go_loopg [11] k3 (fun kq v11 w' => ∃ (x11_4 : Int), v11 = .int .i64 x11_4 ∧ Aside0 (magnetolaw05_StuffParts.l1 kq a1 t495 t510 x11_4 = some r) ∧ Aside0 (kq ≤ k3) ∧ Aside0 (Kd.R (Kd.int .i64) 3 w' w.heap.size (fun k_ => some k_ ≠ ((.slice Ao56 t510.length co56) : Value).ownBlock) (.slice Ao57 t495.length co57) t495) ∧ Aside0 (Kd.R (Kd.int .i64) 3 w' w.heap.size (fun k_ => some k_ ≠ ((.slice Ao57 t495.length co57) : Value).ownBlock) (.slice Ao56 t510.length co56) t510) ∧ Aside0 (w'.heap[gb478]? = some (.cells #[(.slice A0_0 l0_0.length c0_0), (.slice A0_1 l0_1.length c0_1)] 23 (0, 0))) ∧ Aside0 (Below w.heap.size w w'))
              case atStart => exact ⟨(0), (by first | rfl | (simp; done) | (simp [*]; done)), H', ⟨Nat.le_refl _⟩, ⟨by (with_reducible repeat (first | apply Kd.R_alloc | apply Kd.R_drewN | apply Kd.R_drew)); exact Kd.R_mono HO_7.out (fun _ hk => hk.2)⟩, ⟨by (with_reducible repeat (first | apply Kd.R_alloc | apply Kd.R_drewN | apply Kd.R_drew)); exact Kd.R_mono HO512.out (fun _ hk => hk.1.2)⟩, ⟨by (with_reducible repeat (first | refine blk_drewN ?_ _ | refine blk_drew ?_ | refine blk_alloc ?_ _)); exact BK478.out⟩, ⟨by repeat (first | (with_reducible first | exact HB.out | apply below_alloc | apply pw_below_drewN | apply below_drew1 | refine below_set ?_ GE478.out) | exact HB.out)⟩⟩
              case round =>
               clear H'
               try clear c1
               try clear p2
               try clear c3
               try clear c4
               try clear q4
               try clear c5
               try clear c5b0
               try clear c5b1
               try clear p5
               try clear q5
               try clear hx5
               try clear p6
               try clear c8
               try clear c10
               try clear c11
               try clear c12
               try clear c14
               try clear c14b0
               try clear c16
               try clear c16b0
               try clear c16b1
               try clear c32
               try clear c38
               try clear c38b0
               try clear c38b1
               try clear c39
               try clear c39b0
               try clear c39b1
               try clear c40
               try clear c40b0
               try clear c40b1
               try clear c43
               try clear c44
               try clear q44
               try clear c45
               try clear c48
               try clear c48b0
               try clear c49
               try clear c49b0
               try clear c50
               try clear p50
               try clear q50
               try clear hx50
               try clear c53
               try clear c53b0
               try clear c53b1
               try clear c53b2
               try clear hcz35_0
               try clear hcz35_1
               try clear hcz6_0
               try clear hcz6_1
               try clear hcz7_0
               try clear hcz7_1
               try clear hfz35_0
               try clear hfz35_1
               try clear hfz6_0
               try clear hfz6_1
               try clear hfz7_0
               try clear hfz7_1
               try clear hx506_0
               try clear p2
               try clear p506
               try clear q4
               try clear q44
               try clear q506
               obtain ⟨x11_4, rfl, HA, HK4, HO_7, HO_10, BK478, HB⟩ := hrel
               cases gk with
               | zero => exact absurd HA.out (by simp [magnetolaw05_StuffParts.l1])
               | succ k4 =>
                have H := HA.out
                clear HA
                simp only [magnetolaw05_StuffParts.l1] at H
                by_cases c58 : x11_4 < (t510.length : Int)
                ·
                 rw [if_pos c58] at H
                 have c58b0 : decide (x11_4 < (t510.length : Int)) = true := decide_eq_true c58
                 clear c58
                 by_cases c59 : 0 ≤ x11_4
                 ·
                  rw [if_pos c59] at H
                  have c59b0 : decide (0 ≤ x11_4) = true := decide_eq_true c59
                  clear c59
                  by_cases c60 : x11_4 < (t495.length : Int)
                  ·
                   rw [if_pos c60] at H
                   have c60b0 : decide (x11_4 < (t495.length : Int)) = true := decide_eq_true c60
                   clear c60
                   by_cases c61 : (rd t510 x11_4) = (wrap64 (1 - (rd t495 x11_4)))
                   ·
                    rw [if_pos c61] at H
                    have c61b0 : ((rd t510 x11_4) == (wrap64 (1 - (rd t495 x11_4)))) = true := beq_iff_eq.mpr c61
                    have c61b1 : ((rd t510 x11_4) != (wrap64 (1 - (rd t495 x11_4)))) = false := bne_eq_false_iff_eq.mpr c61
                    clear c61
                    have H' := Aside0.mk H
                    clear H
                    try go_wp2
                    have n0_ := Aside0.mk (Kd.R_drew HO_7.out)
                    have n1_ := Aside0.mk (Kd.R_drew HO_10.out)
                    have n2_ := Aside0.mk (blk_drew BK478.out)
                    have n3_ := Aside0.mk (below_drew1 HB.out)
                    clear HO_7
                    clear HO_10
                    clear BK478
                    clear HB
                    have HO_7 := n0_
                    have HO_10 := n1_
                    have BK478 := n2_
                    have HB := n3_
                    clear n0_ n1_ n2_ n3_
                    have p513 : 0 ≤ (x11_4 : Int) := of_decide_eq_true (by first | (with_reducible assumption) | assumption)
                    have q513 : x11_4 < (t510.length : Int) := of_decide_eq_true (by first | (with_reducible assumption) | assumption)
                    obtain ⟨ad513, e513, hx513_0⟩ := Kd.at_int (Kd.R_reads' HO_10.out).2.2 x11_4 p513 q513
                    cases e513
                    replace p513 := eq_true p513
                    replace q513 := eq_true q513
                    have p514 : 0 ≤ (x11_4 : Int) := of_decide_eq_true (by first | (with_reducible assumption) | assumption)
                    have q514 : x11_4 < (t495.length : Int) := of_decide_eq_true (by first | (with_reducible assumption) | assumption)
                    obtain ⟨ad514, e514, hx514_0⟩ := Kd.at_int (Kd.R_reads' HO_7.out).2.2 x11_4 p514 q514
                    cases e514
                    replace p514 := eq_true p514
                    replace q514 := eq_true q514
                    refine start_ (n := 10) (S := fun w' => w'.cell? (ad513.add (x11_4).toNat) = some (.int .i64 (rd t510 x11_4)) ∧ w'.cell? (ad514.add (x11_4).toNat) = some (.int .i64 (rd t495 x11_4))) (ds := []) #[false, false, false, false, false, false, false, false, false, false] (by kernel_rfl) rfl rfl ⟨hx513_0, hx514_0⟩ (fun hHeld => ?_); refine with_tabW magnetolaw05_StuffParts.tab21 magnetolaw05_StuffParts.bits21 (fun HT_ HW_ => ?_)
                    generalize wr.drew = w62 at HO_7 HO_10 BK478 HB hx513_0 hx514_0 hHeld ⊢
                    refine pure_ (i := 0) (N := some 91) (v := ?_) (a' := ?_) #[true, false, false, false, false, false, false, false, false, false] rfl rfl (any_of HT_.out (by kernel_rfl)) (fun _ _ _ h => h) (Or.inl ⟨by rfl, ?_⟩) ?_ ?_
                    rotate_left
                    ·
                     intro w'
                     go_simp
                     with_reducible rfl
                    rotate_left
                    ·
                     simp only [Act.put, List.setIfInBounds_toArray, List.set_cons_zero, List.set_cons_succ, i64_w, i32_w]
                     rfl
                    refine pure_ (i := 1) (N := some 92) (v := ?_) (a' := ?_) #[true, true, false, false, false, false, false, false, false, false] rfl rfl (any_of HT_.out (by kernel_rfl)) (fun _ _ _ h => h) (Or.inl ⟨by rfl, ?_⟩) ?_ ?_
                    rotate_left
                    ·
                     intro w'
                     go_simp
                     with_reducible rfl
                    rotate_left
                    ·
                     simp only [Act.put, List.setIfInBounds_toArray, List.set_cons_zero, List.set_cons_succ, i64_w, i32_w]
                     rfl
                    refine pure_ (i := 2) (N := some 93) (v := ?_) (a' := ?_) #[true, true, true, false, false, false, false, false, false, false] rfl rfl (any_of HT_.out (by kernel_rfl)) (fun _ _ _ h => h) (Or.inl ⟨by rfl, ?_⟩) ?_ ?_
                    rotate_left
                    ·
                     intro w'
                     go_simp
                     with_reducible rfl
                    rotate_left
                    ·
                     simp only [Act.put, List.setIfInBounds_toArray, List.set_cons_zero, List.set_cons_succ, i64_w, i32_w]
                     rfl
                    refine pure_ (i := 4) (N := some 95) (v := ?_) (a' := ?_) #[true, true, true, false, true, false, false, false, false, false] rfl rfl (any_of HT_.out (by kernel_rfl)) (fun _ _ _ h => h) (Or.inl ⟨by rfl, ?_⟩) ?_ ?_
                    rotate_left
                    ·
                     intro w'
                     go_simp
                     with_reducible rfl
                    rotate_left
                    ·
                     simp only [Act.put, List.setIfInBounds_toArray, List.set_cons_zero, List.set_cons_succ, i64_w, i32_w]
                     rfl
                    refine pure_ (i := 5) (N := some 96) (v := ?_) (a' := ?_) #[true, true, true, false, true, true, false, false, false, false] rfl rfl (any_of HT_.out (by kernel_rfl)) (fun _ _ _ h => h) (Or.inl ⟨by rfl, ?_⟩) ?_ ?_
                    rotate_left
                    ·
                     intro w'
                     go_simp
                     with_reducible rfl
                    rotate_left
                    ·
                     simp only [Act.put, List.setIfInBounds_toArray, List.set_cons_zero, List.set_cons_succ, i64_w, i32_w]
                     rfl
                    refine pure_ (i := 6) (N := some 97) (v := ?_) (a' := ?_) #[true, true, true, false, true, true, true, false, false, false] rfl rfl (any_of HT_.out (by kernel_rfl)) (fun _ _ _ h => h) (Or.inl ⟨by rfl, ?_⟩) ?_ ?_
                    rotate_left
                    ·
                     intro w'
                     go_simp
                     with_reducible rfl
                    rotate_left
                    ·
                     simp only [Act.put, List.setIfInBounds_toArray, List.set_cons_zero, List.set_cons_succ, i64_w, i32_w]
                     rfl
                    refine take_ (i := 3) (N := some 94) (v := ?_) (a' := ?_) #[true, true, true, true, true, true, true, false, false, false] rfl rfl (take_ofW HT_.out HW_.out (by kernel_rfl)) (fun _ _ _ h => h) (Or.inl ⟨by rfl, ?_⟩) hHeld ?_ ?_
                    rotate_left
                    ·
                     rintro w' ⟨s0, s1⟩
                     go_simp
                     with_reducible rfl
                    rotate_left
                    ·
                     simp only [Act.put, List.setIfInBounds_toArray, List.set_cons_zero, List.set_cons_succ, i64_w, i32_w]
                     rfl
                    refine take_ (i := 7) (N := some 98) (v := ?_) (a' := ?_) #[true, true, true, true, true, true, true, true, false, false] rfl rfl (take_ofW HT_.out HW_.out (by kernel_rfl)) (fun _ _ _ h => h) (Or.inl ⟨by rfl, ?_⟩) hHeld ?_ ?_
                    rotate_left
                    ·
                     rintro w' ⟨s0, s1⟩
                     go_simp
                     with_reducible rfl
                    rotate_left
                    ·
                     simp only [Act.put, List.setIfInBounds_toArray, List.set_cons_zero, List.set_cons_succ, i64_w, i32_w]
                     rfl
                    refine pure_ (i := 8) (N := some 99) (v := ?_) (a' := ?_) #[true, true, true, true, true, true, true, true, true, false] rfl rfl (any_of HT_.out (by kernel_rfl)) (fun _ _ _ h => h) (Or.inl ⟨by rfl, ?_⟩) ?_ ?_
                    rotate_left
                    ·
                     intro w'
                     go_simp
                     with_reducible rfl
                    rotate_left
                    ·
                     simp only [Act.put, List.setIfInBounds_toArray, List.set_cons_zero, List.set_cons_succ, i64_w, i32_w]
                     rfl
                    refine pure_ (i := 9) (N := some 100) (v := ?_) (a' := ?_) #[true, true, true, true, true, true, true, true, true, true] rfl rfl (any_of HT_.out (by kernel_rfl)) (fun _ _ _ h => h) (Or.inl ⟨by rfl, ?_⟩) ?_ ?_
                    rotate_left
                    ·
                     intro w'
                     go_simp
                     with_reducible rfl
                    rotate_left
                    ·
                     simp only [Act.put, List.setIfInBounds_toArray, List.set_cons_zero, List.set_cons_succ, i64_w, i32_w]
                     rfl
                    refine done_ (done_of HT_.out (by kernel_rfl)) ?_
                    try go_wp2
                    go_roundg k4
                    case measure => have := HJ2.out; have := HJ27.out; have := HK3.out; have := HK4.out; omega
                    case rel => exact ⟨(wrap64 (x11_4 + 1)), (by first | rfl | (simp; done) | (simp [*]; done)), H', ⟨by have := HJ2.out; have := HJ27.out; have := HK3.out; have := HK4.out; omega⟩, ⟨by (with_reducible repeat (first | apply Kd.R_alloc | apply Kd.R_drewN | apply Kd.R_drew)); exact HO_7.out⟩, ⟨by (with_reducible repeat (first | apply Kd.R_alloc | apply Kd.R_drewN | apply Kd.R_drew)); exact HO_10.out⟩, ⟨by (with_reducible repeat (first | refine blk_drewN ?_ _ | refine blk_drew ?_ | refine blk_alloc ?_ _)); exact BK478.out⟩, ⟨by repeat (first | (with_reducible first | exact HB.out | apply below_alloc | apply pw_below_drewN | apply below_drew1 | refine below_set ?_ GE478.out) | exact HB.out)⟩⟩
                   ·
                    rw [if_neg c61] at H
                    exact absurd H (by simp)
                  ·
                   rw [if_neg c60] at H
                   exact absurd H (by simp)
                 ·
                  rw [if_neg c59] at H
                  exact absurd H (by simp)
                ·
                 rw [if_neg c58] at H
                 have c58b0 : decide (x11_4 < (t510.length : Int)) = false := decide_eq_false c58
                 clear c58
                 have HC63 := Aside0.mk H
                 clear H
                 go_upto_region 23 with (fail)
                 go_cut [106] (fun v106 wc => ∃ (kq : Nat) (x106_62 : Bool), v106 = .bool x106_62 ∧ Aside0 (magnetolaw05_StuffParts.j4 kq a1 x106_62 = some r) ∧ Aside0 (kq ≤ k4) ∧ Aside0 (wc.heap[gb478]? = some (.cells #[(.slice A0_0 l0_0.length c0_0), (.slice A0_1 l0_1.length c0_1)] 23 (0, 0))) ∧ Aside0 (Below w.heap.size w wc))
                 case first =>
                  have H := HC63.out
                  clear HC63
                  by_cases c64 : a1 < 0
                  ·
                   rw [if_pos c64] at H
                   have c64b0 : decide (a1 < 0) = true := decide_eq_true c64
                   clear c64
                   (first | rw [c64b0] | (simp only [i64_w, i32_w]; rw [c64b0]) | skip)
                   have H' := Aside0.mk H
                   clear H
                   go_wp2
                   go_meet
                   case rel => exact ⟨_, (true), (by first | rfl | (simp; done) | (simp [*]; done)), H', ⟨by have := HJ2.out; have := HJ27.out; have := HK3.out; have := HK4.out; first | omega | exact Nat.le_refl _⟩, ⟨by (with_reducible repeat (first | refine blk_drewN ?_ _ | refine blk_drew ?_ | refine blk_alloc ?_ _)); exact BK478.out⟩, ⟨by repeat (first | (with_reducible first | exact HB.out | apply below_alloc | apply pw_below_drewN | apply below_drew1 | refine below_set ?_ GE478.out) | exact HB.out)⟩⟩
                  ·
                   rw [if_neg c64] at H
                   have c64b0 : decide (a1 < 0) = false := decide_eq_false c64
                   clear c64
                   (first | rw [c64b0] | (simp only [i64_w, i32_w]; rw [c64b0]) | skip)
                   have H' := Aside0.mk H
                   clear H
                   go_wp2
                   go_meet
                   case rel => exact ⟨_, (decide (a1 > 200)), (by first | rfl | (simp; done) | (simp [*]; done)), H', ⟨by have := HJ2.out; have := HJ27.out; have := HK3.out; have := HK4.out; first | omega | exact Nat.le_refl _⟩, ⟨by (with_reducible repeat (first | refine blk_drewN ?_ _ | refine blk_drew ?_ | refine blk_alloc ?_ _)); exact BK478.out⟩, ⟨by repeat (first | (with_reducible first | exact HB.out | apply below_alloc | apply pw_below_drewN | apply below_drew1 | refine below_set ?_ GE478.out) | exact HB.out)⟩⟩
                 case rest =>
                  clear HC63
                  try clear c1
                  try clear p2
                  try clear c3
                  try clear c4
                  try clear q4
                  try clear c5
                  try clear c5b0
                  try clear c5b1
                  try clear p5
                  try clear q5
                  try clear hx5
                  try clear c6
                  try clear p6
                  try clear c8
                  try clear c10
                  try clear c11
                  try clear c12
                  try clear c14
                  try clear c14b0
                  try clear c16
                  try clear c16b0
                  try clear c16b1
                  try clear c32
                  try clear c38
                  try clear c38b0
                  try clear c38b1
                  try clear c39
                  try clear c39b0
                  try clear c39b1
                  try clear c40
                  try clear c40b0
                  try clear c40b1
                  try clear c43
                  try clear c44
                  try clear q44
                  try clear c45
                  try clear c48
                  try clear c48b0
                  try clear c49
                  try clear c49b0
                  try clear c50
                  try clear p50
                  try clear q50
                  try clear hx50
                  try clear p51
                  try clear q51
                  try clear hx51
                  try clear c53
                  try clear c53b0
                  try clear c53b1
                  try clear c53b2
                  try clear c58
                  try clear c58b0
                  try clear c59
                  try clear c59b0
                  try clear c60
                  try clear c60b0
                  try clear c61
                  try clear c61b0
                  try clear c61b1
                  try clear c64
                  try clear c64b0
                  try clear p64
                  try clear hcz35_0
                  try clear hcz35_1
                  try clear hcz6_0
                  try clear hcz6_1
                  try clear hcz7_0
                  try clear hcz7_1
                  try clear hfz35_0
                  try clear hfz35_1
                  try clear hfz6_0
                  try clear hfz6_1
                  try clear hfz7_0
                  try clear hfz7_1
                  try clear hx506_0
                  try clear hx513_0
                  try clear hx514_0
                  try clear p2
                  try clear p5
                  try clear p50
                  try clear p506
                  try clear p513
                  try clear p514
                  try clear p6
                  try clear q4
                  try clear q44
                  try clear q5
                  try clear q50
                  try clear q506
                  try clear q513
                  try clear q514
                  obtain ⟨kq, x106_62, rfl, HA, HJ62, BK478, HB⟩ := hcut
                  cases kq with
                  | zero => exact absurd HA.out (by simp [magnetolaw05_StuffParts.j4])
                  | succ kj62 =>
                   have H := HA.out
                   clear HA
                   simp only [magnetolaw05_StuffParts.j4] at H
                   by_cases c65 : x106_62 = true
                   ·
                    subst c65
                    have H1 : ((magnetolaw05_awake.f kj62).bind fun t515 => (some t515)) = some r := by rw [if_pos rfl] at H; exact H
                    clear H
                    have H := H1
                    clear H1
                    replace H := Option.bind_eq_some_iff.mp H
                    obtain ⟨t515, A660, H⟩ := H
                    replace H : (some t515) = some r := H
                    have A66 := Aside0.mk A660
                    clear A660
                    obtain rfl := Option.some.inj H
                    go_wp2_with (first | ((with_reducible refine gate_callee (f := 40) rfl ?_); refine goesL_ (some 107) rfl rfl Try.func40 (by kernel_rfl) rfl #[] rfl (by (try simp only [List.map_toArray, List.map_cons, List.map_nil]); first | done | rfl | (simp only [List.length_drop, List.length_take]; rfl)) ?_; (with_reducible refine (magnetolaw05_awake.calls kj62  t515 _ A66.out).mono ?_); rintro e w67 ⟨rfl, hb⟩; refine ⟨_, rfl, ?_⟩; have n0_ := Aside0.mk (blk_below (g := gb478) (o := .cells #[.slice A0_0 l0_0.length c0_0, .slice A0_1 l0_1.length c0_1] 23 (0, 0)) (by (with_reducible repeat (first | refine blk_drewN ?_ _ | refine blk_drew ?_ | refine blk_alloc ?_ _)); exact BK478.out) hb); have n1_ := Aside0.mk (below_step (by repeat (first | (with_reducible first | exact HB.out | apply below_alloc | apply pw_below_drewN | apply below_drew1 | refine below_set ?_ GE478.out) | exact HB.out)) hb); clear BK478; clear HB; have BK478 := n0_; have HB := n1_; clear n0_ n1_; (try clear hb); (try clear hb2); (try clear hk); (try clear hi)))
                    go_ret
                    exact ⟨by first | rfl | (simp [errW_none, errW_some] <;> rfl) | (simp [*, errW_none, errW_some] <;> rfl), by repeat (first | (with_reducible first | exact HB.out | apply below_alloc | apply pw_below_drewN | apply below_drew1 | refine below_set ?_ GE478.out) | exact HB.out)⟩
                   ·
                    replace c65 := Bool.eq_false_iff.mpr c65
                    subst c65
                    have H1 : (magnetolaw05_StuffParts.l2 kj62 a1 (([] : List Int)) 0) = some r := by rw [if_neg (show ¬ (false = true) by decide)] at H; exact H
                    clear H
                    have H := H1
                    clear H1
                    obtain ⟨y516, hy516⟩ : ∃ y_ : List Int, y_ = (([] : List Int)) := ⟨_, rfl⟩
                    replace H : (magnetolaw05_StuffParts.l2 kj62 a1 y516 0) = some r := by first | (rw [hy516]; with_reducible exact H) | (have H2_ := (Option.bind_some _ _).symm.trans H; rw [hy516]; with_reducible exact H2_) | (have H2_ := (Option.bind_some _ _).symm.trans H; with_reducible exact H2_) | with_reducible exact H | (rw [hy516]; exact H) | exact H
                    have Ny516 := Aside0.mk hy516
                    clear hy516
                    have H' := Aside0.mk H
                    clear H
                    go_wp2_with (first | ((with_reducible refine gate_dst (N := 108) rfl ?_); (try (refine gate_guard (by rfl) ?_; dsimp only)); refine Kd.R_lit (Kd.int .i64) _ 3 ?hg (N := 108) ?hd (xs := ([] : List Int)) (inner := []) (ok := fun _ => True) (okp := fun _ => True) ?hr ?hp (fun _ hk => hk) trivial (Below.refl _ _) (Nat.le_refl _) (by simp) ?_; (case hd => rfl); (case hg => rfl); (case hr => first | (go_simp; done) | (go_simp; rfl)); (case hp => exact (Reps.none _ _)); intro v517 w68 ho69 hb hg_ hnew_; clear hg_ hnew_; (first | rw [← Ny516.out] at ho69 | (simp only [Int.reduceToNat] at ho69; rw [← Ny516.out] at ho69)); have n0_ := Aside0.mk (Kd.R_lower ho69 (below_size (by repeat (first | (with_reducible first | exact HB.out | apply below_alloc | apply pw_below_drewN | apply below_drew1 | refine below_set ?_ GE478.out) | exact HB.out)))); have n1_ := Aside0.mk (blk_below (g := gb478) (o := .cells #[.slice A0_0 l0_0.length c0_0, .slice A0_1 l0_1.length c0_1] 23 (0, 0)) (by (with_reducible repeat (first | refine blk_drewN ?_ _ | refine blk_drew ?_ | refine blk_alloc ?_ _)); exact BK478.out) hb); have n2_ := Aside0.mk (below_step (by repeat (first | (with_reducible first | exact HB.out | apply below_alloc | apply pw_below_drewN | apply below_drew1 | refine below_set ?_ GE478.out) | exact HB.out)) hb); clear BK478; clear HB; have HO518 := n0_; have BK478 := n1_; have HB := n2_; clear n0_ n1_ n2_; clear hb ho69))
                    go_loopg [12, 13] kj62 (fun kq v12 v13 w' => ∃ (x12_6 : List Int) (x13_6 : Int), v13 = .int .i64 x13_6 ∧ Aside0 (magnetolaw05_StuffParts.l2 kq a1 x12_6 x13_6 = some r) ∧ Aside0 (kq ≤ kj62) ∧ Aside0 (Kd.R (Kd.int .i64) 3 w' w.heap.size (fun _ => True) v12 x12_6) ∧ Aside0 (w'.heap[gb478]? = some (.cells #[(.slice A0_0 l0_0.length c0_0), (.slice A0_1 l0_1.length c0_1)] 23 (0, 0))) ∧ Aside0 (Below w.heap.size w w'))
                    case atStart => exact ⟨(y516), (0), (by first | rfl | (simp; done) | (simp [*]; done)), H', ⟨Nat.le_refl _⟩, ⟨by (with_reducible repeat (first | apply Kd.R_alloc | apply Kd.R_drewN | apply Kd.R_drew)); exact HO518.out⟩, ⟨by (with_reducible repeat (first | refine blk_drewN ?_ _ | refine blk_drew ?_ | refine blk_alloc ?_ _)); exact BK478.out⟩, ⟨by repeat (first | (with_reducible first | exact HB.out | apply below_alloc | apply pw_below_drewN | apply below_drew1 | refine below_set ?_ GE478.out) | exact HB.out)⟩⟩
                    case round =>
                     clear H'
                     try clear c1
                     try clear p2
                     try clear c3
                     try clear c4
                     try clear q4
                     try clear c5
                     try clear c5b0
                     try clear c5b1
                     try clear p5
                     try clear q5
                     try clear hx5
                     try clear c6
                     try clear p6
                     try clear c8
                     try clear c10
                     try clear c11
                     try clear c12
                     try clear c14
                     try clear c14b0
                     try clear c16
                     try clear c16b0
                     try clear c16b1
                     try clear c32
                     try clear c38
                     try clear c38b0
                     try clear c38b1
                     try clear c39
                     try clear c39b0
                     try clear c39b1
                     try clear c40
                     try clear c40b0
                     try clear c40b1
                     try clear c43
                     try clear c44
                     try clear q44
                     try clear c45
                     try clear c48
                     try clear c48b0
                     try clear c49
                     try clear c49b0
                     try clear c50
                     try clear p50
                     try clear q50
                     try clear hx50
                     try clear p51
                     try clear q51
                     try clear hx51
                     try clear c53
                     try clear c53b0
                     try clear c53b1
                     try clear c53b2
                     try clear c58
                     try clear c58b0
                     try clear c59
                     try clear c59b0
                     try clear c60
                     try clear c60b0
                     try clear c61
                     try clear c61b0
                     try clear c61b1
                     try clear c64
                     try clear c64b0
                     try clear p64
                     try clear c65
                     try clear hcz35_0
                     try clear hcz35_1
                     try clear hcz6_0
                     try clear hcz6_1
                     try clear hcz7_0
                     try clear hcz7_1
                     try clear hfz35_0
                     try clear hfz35_1
                     try clear hfz6_0
                     try clear hfz6_1
                     try clear hfz7_0
                     try clear hfz7_1
                     try clear hx506_0
                     try clear hx513_0
                     try clear hx514_0
                     try clear p2
                     try clear p5
                     try clear p50
                     try clear p506
                     try clear p51
                     try clear p513
                     try clear p514
                     try clear p6
                     try clear p64
                     try clear q4
                     try clear q44
                     try clear q5
                     try clear q50
                     try clear q506
                     try clear q51
                     try clear q513
                     try clear q514
                     obtain ⟨x12_6, x13_6, rfl, HA, HK6, HO_12, BK478, HB⟩ := hrel
                     cases gk with
                     | zero => exact absurd HA.out (by simp [magnetolaw05_StuffParts.l2])
                     | succ k6 =>
                      have H := HA.out
                      clear HA
                      simp only [magnetolaw05_StuffParts.l2] at H
                      by_cases c70 : x13_6 < a1
                      ·
                       rw [if_pos c70] at H
                       have c70b0 : decide (x13_6 < a1) = true := decide_eq_true c70
                       clear c70
                       by_cases c71 : x13_6 ≥ 5
                       ·
                        rw [if_pos c71] at H
                        have c71b0 : decide (5 ≤ x13_6) = true := decide_eq_true c71
                        clear c71
                        by_cases c72 : x12_6.length < 17592186044416
                        ·
                         rw [if_pos c72] at H
                         have LMc72 := Aside0.mk c72
                         clear c72
                         obtain ⟨y519, hy519⟩ : ∃ y_ : List Int, y_ = (x12_6 ++ [Int.tmod (wrap64 (Int.tdiv (wrap64 (x13_6 - 1)) 4)) 2]) := ⟨_, rfl⟩
                         replace H : (magnetolaw05_StuffParts.l2 k6 a1 y519 (wrap64 (x13_6 + 1))) = some r := by first | (rw [hy519]; with_reducible exact H) | (have H2_ := (Option.bind_some _ _).symm.trans H; rw [hy519]; with_reducible exact H2_) | (have H2_ := (Option.bind_some _ _).symm.trans H; with_reducible exact H2_) | with_reducible exact H | (rw [hy519]; exact H) | exact H
                         have Ny519 := Aside0.mk hy519
                         clear hy519
                         have H' := Aside0.mk H
                         clear H
                         go_wp2_with (first | ((with_reducible refine gate_builtin (b := .append) (xs := #[.tmp 120, .tmp 122]) rfl ?_); (try (refine gate_guard (by rfl) ?_; dsimp only)); at_builtin; refine Kd.R_append (Kd.int .i64) (w0 := w) w.heap.size rfl (.tmp 120) (.tmp 122) 22 3 (.int .i64 0) 8 rfl Try.underlying22 info3 rfl (by decide) (by omega) u12 x12_6 (Int.tmod (wrap64 (Int.tdiv (wrap64 (x13_6 - 1)) 4)) 2) [.int .i64 (Int.tmod (wrap64 (Int.tdiv (wrap64 (x13_6 - 1)) 4)) 2)] (fun _ => True) (fun _ => False) rfl rfl ?aP (fun _ hk => hk.elim) ?aF ?aO ?aB ?aS ?aL ?_; (case aP => exact rfl); (case aB => exact (by repeat (first | (with_reducible first | exact HB.out | apply below_alloc | apply pw_below_drewN | apply below_drew1 | refine below_set ?_ GE478.out) | exact HB.out))); (case aF => exact (fun _ _ => trivial)); (case aO => exact (by (with_reducible repeat (first | apply Kd.R_alloc | apply Kd.R_drewN | apply Kd.R_drew)); exact HO_12.out)); (case aS => exact (below_size (by repeat (first | (with_reducible first | exact HB.out | apply below_alloc | apply pw_below_drewN | apply below_drew1 | refine below_set ?_ GE478.out) | exact HB.out)))); (case aL => have := LMc72.out; omega); intro v520 w73 ho hb hg hat; rw [← Ny519.out] at ho; have n0_ := Aside0.mk (blk_grown (g := gb478) (o := .cells #[.slice A0_0 l0_0.length c0_0, .slice A0_1 l0_1.length c0_1] 23 (0, 0)) (by (with_reducible repeat (first | refine blk_drewN ?_ _ | refine blk_drew ?_ | refine blk_alloc ?_ _)); exact BK478.out) hg (Kd.R_ne HO_12.out BK478.out (by decide))); have n1_ := Aside0.mk (hb); have n2_ := Aside0.mk (ho); clear BK478; clear HB; clear HO_12; have BK478 := n0_; have HB := n1_; have HO521 := n2_; clear n0_ n1_ n2_; clear ho hb hg hat))
                         go_roundg k6
                         case measure => have := HJ2.out; have := HJ27.out; have := HK3.out; have := HK4.out; have := HJ62.out; have := HK6.out; omega
                         case rel => exact ⟨(y519), (wrap64 (x13_6 + 1)), (by first | rfl | (simp; done) | (simp [*]; done)), H', ⟨by have := HJ2.out; have := HJ27.out; have := HK3.out; have := HK4.out; have := HJ62.out; have := HK6.out; omega⟩, ⟨by (with_reducible repeat (first | apply Kd.R_alloc | apply Kd.R_drewN | apply Kd.R_drew)); exact HO521.out⟩, ⟨by (with_reducible repeat (first | refine blk_drewN ?_ _ | refine blk_drew ?_ | refine blk_alloc ?_ _)); exact BK478.out⟩, ⟨by repeat (first | (with_reducible first | exact HB.out | apply below_alloc | apply pw_below_drewN | apply below_drew1 | refine below_set ?_ GE478.out) | exact HB.out)⟩⟩
                        ·
                         rw [if_neg c72] at H
                         exact absurd H (by simp)
                       ·
                        rw [if_neg c71] at H
                        have c71b0 : decide (5 ≤ x13_6) = false := decide_eq_false c71
                        clear c71
                        by_cases c74 : x12_6.length < 17592186044416
                        ·
                         rw [if_pos c74] at H
                         have LMc74 := Aside0.mk c74
                         clear c74
                         obtain ⟨y522, hy522⟩ : ∃ y_ : List Int, y_ = (x12_6 ++ [0]) := ⟨_, rfl⟩
                         replace H : (magnetolaw05_StuffParts.l2 k6 a1 y522 (wrap64 (x13_6 + 1))) = some r := by first | (rw [hy522]; with_reducible exact H) | (have H2_ := (Option.bind_some _ _).symm.trans H; rw [hy522]; with_reducible exact H2_) | (have H2_ := (Option.bind_some _ _).symm.trans H; with_reducible exact H2_) | with_reducible exact H | (rw [hy522]; exact H) | exact H
                         have Ny522 := Aside0.mk hy522
                         clear hy522
                         have H' := Aside0.mk H
                         clear H
                         go_wp2_with (first | ((with_reducible refine gate_builtin (b := .append) (xs := #[.tmp 120, .tmp 122]) rfl ?_); (try (refine gate_guard (by rfl) ?_; dsimp only)); at_builtin; refine Kd.R_append (Kd.int .i64) (w0 := w) w.heap.size rfl (.tmp 120) (.tmp 122) 22 3 (.int .i64 0) 8 rfl Try.underlying22 info3 rfl (by decide) (by omega) u12 x12_6 0 [.int .i64 0] (fun _ => True) (fun _ => False) rfl rfl ?aP (fun _ hk => hk.elim) ?aF ?aO ?aB ?aS ?aL ?_; (case aP => exact rfl); (case aB => exact (by repeat (first | (with_reducible first | exact HB.out | apply below_alloc | apply pw_below_drewN | apply below_drew1 | refine below_set ?_ GE478.out) | exact HB.out))); (case aF => exact (fun _ _ => trivial)); (case aO => exact (by (with_reducible repeat (first | apply Kd.R_alloc | apply Kd.R_drewN | apply Kd.R_drew)); exact HO_12.out)); (case aS => exact (below_size (by repeat (first | (with_reducible first | exact HB.out | apply below_alloc | apply pw_below_drewN | apply below_drew1 | refine below_set ?_ GE478.out) | exact HB.out)))); (case aL => have := LMc74.out; omega); intro v523 w75 ho hb hg hat; rw [← Ny522.out] at ho; have n0_ := Aside0.mk (blk_grown (g := gb478) (o := .cells #[.slice A0_0 l0_0.length c0_0, .slice A0_1 l0_1.length c0_1] 23 (0, 0)) (by (with_reducible repeat (first | refine blk_drewN ?_ _ | refine blk_drew ?_ | refine blk_alloc ?_ _)); exact BK478.out) hg (Kd.R_ne HO_12.out BK478.out (by decide))); have n1_ := Aside0.mk (hb); have n2_ := Aside0.mk (ho); clear BK478; clear HB; clear HO_12; have BK478 := n0_; have HB := n1_; have HO524 := n2_; clear n0_ n1_ n2_; clear ho hb hg hat))
                         go_roundg k6
                         case measure => have := HJ2.out; have := HJ27.out; have := HK3.out; have := HK4.out; have := HJ62.out; have := HK6.out; omega
                         case rel => exact ⟨(y522), (wrap64 (x13_6 + 1)), (by first | rfl | (simp; done) | (simp [*]; done)), H', ⟨by have := HJ2.out; have := HJ27.out; have := HK3.out; have := HK4.out; have := HJ62.out; have := HK6.out; omega⟩, ⟨by (with_reducible repeat (first | apply Kd.R_alloc | apply Kd.R_drewN | apply Kd.R_drew)); exact HO524.out⟩, ⟨by (with_reducible repeat (first | refine blk_drewN ?_ _ | refine blk_drew ?_ | refine blk_alloc ?_ _)); exact BK478.out⟩, ⟨by repeat (first | (with_reducible first | exact HB.out | apply below_alloc | apply pw_below_drewN | apply below_drew1 | refine below_set ?_ GE478.out) | exact HB.out)⟩⟩
                        ·
                         rw [if_neg c74] at H
                         exact absurd H (by simp)
                      ·
                       rw [if_neg c70] at H
                       have c70b0 : decide (x13_6 < a1) = false := decide_eq_false c70
                       clear c70
                       replace H := Option.bind_eq_some_iff.mp H
                       obtain ⟨⟨t525, t526⟩, A760, H⟩ := H
                       replace H : (if t526 = 0 then ((stuff_Count.f x12_6).bind fun t527 => (if t527 = t525 then ((magnetolaw05_awake.f k6).bind fun t528 => (some t528)) else (none))) else (none)) = some r := H
                       have A76 := Aside0.mk A760
                       clear A760
                       by_cases c77 : t526 = 0
                       ·
                        rw [if_pos c77] at H
                        have c77b0 : (t526 == 0) = true := beq_iff_eq.mpr c77
                        have c77b1 : (t526 != 0) = false := bne_eq_false_iff_eq.mpr c77
                        clear c77
                        replace H := Option.bind_eq_some_iff.mp H
                        obtain ⟨t527, A780, H⟩ := H
                        replace H : (if t527 = t525 then ((magnetolaw05_awake.f k6).bind fun t528 => (some t528)) else (none)) = some r := H
                        have A78 := Aside0.mk A780
                        clear A780
                        by_cases c79 : t527 = t525
                        ·
                         rw [if_pos c79] at H
                         have c79b0 : (t527 == t525) = true := beq_iff_eq.mpr c79
                         have c79b1 : (t527 != t525) = false := bne_eq_false_iff_eq.mpr c79
                         clear c79
                         replace H := Option.bind_eq_some_iff.mp H
                         obtain ⟨t528, A800, H⟩ := H
                         replace H : (some t528) = some r := H
                         have A80 := Aside0.mk A800
                         clear A800
                         obtain rfl := Option.some.inj H
                         go_wp2_with (first | ((with_reducible refine gate_callee (f := 45) rfl ?_); refine goesL_ (some 126) rfl rfl Try.func45 (by kernel_rfl) rfl #[.int .i64 a1] rfl (by (try simp only [List.map_toArray, List.map_cons, List.map_nil]); first | done | rfl | (simp only [List.length_drop, List.length_take]; rfl)) ?_; (with_reducible refine (stuff_Most.calls a1 t525 t526 _ A76.out).mono ?_); rintro e w' ⟨rfl, ⟨nd, rfl⟩⟩; refine ⟨_, rfl, ?_⟩; obtain ⟨Ao81, co81, eo81⟩ := Kd.R_slice HO_12.out; subst eo81) | (go_at_call 44; (with_reducible refine (stuff_Count.calls _ _ x12_6 t527 _ ?side1 ?side2 A78.out).mono ?_); (case side1 => repeat (first | exact (Kd.R_reads' HO_12.out).2.2 | (with_reducible refine Kd.C_alloc ?_ _) | (with_reducible refine Kd.C_drewN ?_ _) | (with_reducible refine Kd.C_drew ?_))); (case side2 => exact (Kd.R_reads' HO_12.out).2.1); rintro e w82 ⟨rfl, hb⟩; have n0_ := Aside0.mk (Kd.R_below (by (with_reducible repeat (first | apply Kd.R_alloc | apply Kd.R_drewN | apply Kd.R_drew)); exact HO_12.out) hb); have n1_ := Aside0.mk (blk_below (g := gb478) (o := .cells #[.slice A0_0 l0_0.length c0_0, .slice A0_1 l0_1.length c0_1] 23 (0, 0)) (by (with_reducible repeat (first | refine blk_drewN ?_ _ | refine blk_drew ?_ | refine blk_alloc ?_ _)); exact BK478.out) hb); have n2_ := Aside0.mk (below_step (by repeat (first | (with_reducible first | exact HB.out | apply below_alloc | apply pw_below_drewN | apply below_drew1 | refine below_set ?_ GE478.out) | exact HB.out)) hb); clear HO_12; clear BK478; clear HB; have HO_12 := n0_; have BK478 := n1_; have HB := n2_; clear n0_ n1_ n2_; (try clear hb); (try clear hb2); (try clear hk); (try clear hi)) | (go_at_call 40; (with_reducible refine (magnetolaw05_awake.calls k6  t528 _ A80.out).mono ?_); rintro e w83 ⟨rfl, hb⟩; have n0_ := Aside0.mk (Kd.R_below (by (with_reducible repeat (first | apply Kd.R_alloc | apply Kd.R_drewN | apply Kd.R_drew)); exact HO_12.out) hb); have n1_ := Aside0.mk (blk_below (g := gb478) (o := .cells #[.slice A0_0 l0_0.length c0_0, .slice A0_1 l0_1.length c0_1] 23 (0, 0)) (by (with_reducible repeat (first | refine blk_drewN ?_ _ | refine blk_drew ?_ | refine blk_alloc ?_ _)); exact BK478.out) hb); have n2_ := Aside0.mk (below_step (by repeat (first | (with_reducible first | exact HB.out | apply below_alloc | apply pw_below_drewN | apply below_drew1 | refine below_set ?_ GE478.out) | exact HB.out)) hb); clear HO_12; clear BK478; clear HB; have HO_12 := n0_; have BK478 := n1_; have HB := n2_; clear n0_ n1_ n2_; (try clear hb); (try clear hb2); (try clear hk); (try clear hi)))
                         go_ret
                         exact ⟨by first | rfl | (simp [errW_none, errW_some] <;> rfl) | (simp [*, errW_none, errW_some] <;> rfl), by repeat (first | (with_reducible first | exact HB.out | apply below_alloc | apply pw_below_drewN | apply below_drew1 | refine below_set ?_ GE478.out) | exact HB.out)⟩
                        ·
                         rw [if_neg c79] at H
                         exact absurd H (by simp)
                       ·
                        rw [if_neg c77] at H
                        exact absurd H (by simp)
             ·
              rw [if_neg c53] at H
              exact absurd H (by simp)
     ·
      rw [if_neg c12] at H
      exact absurd H (by simp)
    ·
     rw [if_neg c11] at H
     exact absurd H (by simp)

end Go.Proofs.Ytipflkbpjnacnaa.PA
