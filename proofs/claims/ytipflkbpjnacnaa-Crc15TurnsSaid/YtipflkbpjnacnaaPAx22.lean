/- Functions of the program, in plain Lean, and their walks (printed; half the indent). Conditions: none. -/
-- PRINTED by print.py (a twelfth state) out of the translation. Not trusted: Lean checks it.
import Derived.Test.YtipflkbpjnacnaaPAx0
import Derived.Test.YtipflkbpjnacnaaPAx3
import Derived.Test.YtipflkbpjnacnaaPAx4
import Derived.Test.YtipflkbpjnacnaaPAx6
import Derived.Test.YtipflkbpjnacnaaPAx20
namespace Go.Proofs.Ytipflkbpjnacnaa.PA
open Go.RowKit Go.Proofs.YtipflkbpjnacnaaW.PrintWords Go.Proofs.YtipflkbpjnacnaaW.PrintLast Go.Proofs.YtipflkbpjnacnaaW.PrintMore
attribute [local go_sem] max2_int min2_int max_two min_two max_three min_three max_four min_four   -- for this text's walks alone
set_option linter.unusedVariables false
set_option linter.unusedSimpArgs false

/-! ### magnetolaw02_Crc15Turns: function 14 -/
mutual
def magnetolaw02_Crc15Turns.j0 : Nat → List Int → Int → Int → Int → List Int → Bool → Bool → Bool → Bool → Bool → Bool → Bool → Bool → Bool → Bool → Bool → Bool → Bool → Bool → Bool → Bool → Option (Bool)
 | 0, _, _, _, _, _, _, _, _, _, _, _, _, _, _, _, _, _, _, _, _, _ => none
 | k + 1, x0, x1, x7, x8, x9, x36, x657000, x657001, x657002, x657003, x657004, x657005, x657006, x657007, x657008, x657009, x657010, x657011, x657012, x657013, x657014 => if x36 = true then (if x8 = 10 then ((magnetolaw02_awake.f).bind fun t664 => (some t664)) else (none)) else ((some (([] : List Int) : List Int)).bind fun y665 => (if y665.length + x0.length < 17592186044416 then ((some (y665 ++ x0 : List Int)).bind fun y668 => (if y668.length + x9.length < 17592186044416 then ((some (y668 ++ x9 : List Int)).bind fun y671 => (if (y671.length : Int) = 0 then (none) else (magnetolaw02_Crc15Turns.l0 k x0 (Int.tmod (wrap64 ((Int.tmod x1 (y671.length : Int)) + (y671.length : Int))) (y671.length : Int)) x7 y671 false false 0 x657000 x657001 x657002 x657003 x657004 x657005 x657006 x657007 x657008 x657009 x657010 x657011 x657012 x657013 x657014))) else (none))) else (none)))
def magnetolaw02_Crc15Turns.l0 : Nat → List Int → Int → Int → List Int → Bool → Bool → Int → Bool → Bool → Bool → Bool → Bool → Bool → Bool → Bool → Bool → Bool → Bool → Bool → Bool → Bool → Bool → Option (Bool)
 | 0, _, _, _, _, _, _, _, _, _, _, _, _, _, _, _, _, _, _, _, _, _, _ => none
 | k + 1, x0, x1, x7, x11, x12, x13, x14, x657000, x657001, x657002, x657003, x657004, x657005, x657006, x657007, x657008, x657009, x657010, x657011, x657012, x657013, x657014 => if x14 < 15 then (magnetolaw02_Crc15Turns.j2 k x0 x1 x7 x11 x12 x13 x14 (decide ((wrap64 (x1 + x14)) < (x11.length : Int))) x657000 x657001 x657002 x657003 x657004 x657005 x657006 x657007 x657008 x657009 x657010 x657011 x657012 x657013 x657014) else (magnetolaw02_Crc15Turns.j2 k x0 x1 x7 x11 x12 x13 x14 false x657000 x657001 x657002 x657003 x657004 x657005 x657006 x657007 x657008 x657009 x657010 x657011 x657012 x657013 x657014)
def magnetolaw02_Crc15Turns.j2 : Nat → List Int → Int → Int → List Int → Bool → Bool → Int → Bool → Bool → Bool → Bool → Bool → Bool → Bool → Bool → Bool → Bool → Bool → Bool → Bool → Bool → Bool → Bool → Option (Bool)
 | 0, _, _, _, _, _, _, _, _, _, _, _, _, _, _, _, _, _, _, _, _, _, _, _ => none
 | k + 1, x0, x1, x7, x11, x12, x13, x14, x69, x657000, x657001, x657002, x657003, x657004, x657005, x657006, x657007, x657008, x657009, x657010, x657011, x657012, x657013, x657014 => if x69 = true then (if 0 ≤ x14 then (if x14 < 15 then (if atB ([x657000, x657001, x657002, x657003, x657004, x657005, x657006, x657007, x657008, x657009, x657010, x657011, x657012, x657013, x657014] : List Bool) x14 = true then (if 0 ≤ (wrap64 (x1 + x14)) then (if (wrap64 (x1 + x14)) < (x11.length : Int) then ((some (x11.set ((wrap64 (x1 + x14)) : Int).toNat (wrap64 (1 - (rd x11 (wrap64 (x1 + x14))))) : List Int)).bind fun y675 => (if x13 = true then (magnetolaw02_Crc15Turns.l0 k x0 x1 x7 y675 true true (wrap64 (x14 + 1)) x657000 x657001 x657002 x657003 x657004 x657005 x657006 x657007 x657008 x657009 x657010 x657011 x657012 x657013 x657014) else (magnetolaw02_Crc15Turns.l0 k x0 x1 x7 y675 true (decide ((wrap64 (x1 + x14)) < (x0.length : Int))) (wrap64 (x14 + 1)) x657000 x657001 x657002 x657003 x657004 x657005 x657006 x657007 x657008 x657009 x657010 x657011 x657012 x657013 x657014))) else (none)) else (none)) else (magnetolaw02_Crc15Turns.l0 k x0 x1 x7 x11 x12 x13 (wrap64 (x14 + 1)) x657000 x657001 x657002 x657003 x657004 x657005 x657006 x657007 x657008 x657009 x657010 x657011 x657012 x657013 x657014)) else (none)) else (none)) else ((crc15_Right.f k x11).bind fun t676 => (if (t676 == x12) = true then (none) else (if (x11.length : Int) < (x0.length : Int) then (none) else (if 0 ≤ (x0.length : Int) then (if (x0.length : Int) ≤ (x11.length : Int) then ((crc15_Sum.f (x11.take ((x0.length : Int) : Int).toNat)).bind fun bt681 => (if bt681.2 = 0 then (if ((bt681.1 != x7) == x13) = true then ((magnetolaw02_awake.f).bind fun t683 => (some t683)) else (none)) else (none))) else (none)) else (none)))))
end
def magnetolaw02_Crc15Turns.f (k : Nat) (l0 : List Int) (a1 : Int) (a2_0 : Bool) (a2_1 : Bool) (a2_2 : Bool) (a2_3 : Bool) (a2_4 : Bool) (a2_5 : Bool) (a2_6 : Bool) (a2_7 : Bool) (a2_8 : Bool) (a2_9 : Bool) (a2_10 : Bool) (a2_11 : Bool) (a2_12 : Bool) (a2_13 : Bool) (a2_14 : Bool) : Option (Bool) := if (l0.length : Int) > 300 then ((magnetolaw02_awake.f).bind fun t657 => (some t657)) else ((crc15_Sum.f l0).bind fun bt658 => ((crc15_Bits.f k bt658.1).bind fun bt660 => (if bt658.2 = 0 then (magnetolaw02_Crc15Turns.j0 k l0 a1 bt658.1 bt658.2 bt660.1 (bt660.2 != 0) a2_0 a2_1 a2_2 a2_3 a2_4 a2_5 a2_6 a2_7 a2_8 a2_9 a2_10 a2_11 a2_12 a2_13 a2_14) else (magnetolaw02_Crc15Turns.j0 k l0 a1 bt658.1 bt658.2 bt660.1 true a2_0 a2_1 a2_2 a2_3 a2_4 a2_5 a2_6 a2_7 a2_8 a2_9 a2_10 a2_11 a2_12 a2_13 a2_14))))
theorem magnetolaw02_Crc15Turns.mono_l : ∀ k, (∀ y0 y1 y2 y3 y4 y5 y6 y7 y8 y9 y10 y11 y12 y13 y14 y15 y16 y17 y18 y19 y20, LeO (magnetolaw02_Crc15Turns.j0 k y0 y1 y2 y3 y4 y5 y6 y7 y8 y9 y10 y11 y12 y13 y14 y15 y16 y17 y18 y19 y20) (magnetolaw02_Crc15Turns.j0 (k + 1) y0 y1 y2 y3 y4 y5 y6 y7 y8 y9 y10 y11 y12 y13 y14 y15 y16 y17 y18 y19 y20)) ∧ (∀ y0 y1 y2 y3 y4 y5 y6 y7 y8 y9 y10 y11 y12 y13 y14 y15 y16 y17 y18 y19 y20 y21, LeO (magnetolaw02_Crc15Turns.l0 k y0 y1 y2 y3 y4 y5 y6 y7 y8 y9 y10 y11 y12 y13 y14 y15 y16 y17 y18 y19 y20 y21) (magnetolaw02_Crc15Turns.l0 (k + 1) y0 y1 y2 y3 y4 y5 y6 y7 y8 y9 y10 y11 y12 y13 y14 y15 y16 y17 y18 y19 y20 y21)) ∧ (∀ y0 y1 y2 y3 y4 y5 y6 y7 y8 y9 y10 y11 y12 y13 y14 y15 y16 y17 y18 y19 y20 y21 y22, LeO (magnetolaw02_Crc15Turns.j2 k y0 y1 y2 y3 y4 y5 y6 y7 y8 y9 y10 y11 y12 y13 y14 y15 y16 y17 y18 y19 y20 y21 y22) (magnetolaw02_Crc15Turns.j2 (k + 1) y0 y1 y2 y3 y4 y5 y6 y7 y8 y9 y10 y11 y12 y13 y14 y15 y16 y17 y18 y19 y20 y21 y22))
 | 0 => ⟨fun _ _ _ _ _ _ _ _ _ _ _ _ _ _ _ _ _ _ _ _ _ r h => by simp [magnetolaw02_Crc15Turns.j0] at h, fun _ _ _ _ _ _ _ _ _ _ _ _ _ _ _ _ _ _ _ _ _ _ r h => by simp [magnetolaw02_Crc15Turns.l0] at h, fun _ _ _ _ _ _ _ _ _ _ _ _ _ _ _ _ _ _ _ _ _ _ _ r h => by simp [magnetolaw02_Crc15Turns.j2] at h⟩
 | k + 1 => by
  obtain ⟨ih0, ih1, ih2⟩ := magnetolaw02_Crc15Turns.mono_l k
  refine ⟨?_, ?_, ?_⟩
  ·
   intro y0 y1 y2 y3 y4 y5 y6 y7 y8 y9 y10 y11 y12 y13 y14 y15 y16 y17 y18 y19 y20
   unfold magnetolaw02_Crc15Turns.j0
   repeat' first
   | (with_reducible exact ih0 _ _ _ _ _ _ _ _ _ _ _ _ _ _ _ _ _ _ _ _ _)
   | (with_reducible exact ih1 _ _ _ _ _ _ _ _ _ _ _ _ _ _ _ _ _ _ _ _ _ _)
   | (with_reducible exact ih2 _ _ _ _ _ _ _ _ _ _ _ _ _ _ _ _ _ _ _ _ _ _ _)
   | (with_reducible exact crc15_Bits.mono _ _)
   | (with_reducible exact crc15_Right.mono _ _)
   | (with_reducible exact LeO.refl _)
   | (with_reducible exact LeO.none _)
   | (with_reducible refine LeO.ite ?_ ?_)
   | (with_reducible refine LeO.bind ?_ (fun _ => ?_))
   | exact ih0 _ _ _ _ _ _ _ _ _ _ _ _ _ _ _ _ _ _ _ _ _
   | exact ih1 _ _ _ _ _ _ _ _ _ _ _ _ _ _ _ _ _ _ _ _ _ _
   | exact ih2 _ _ _ _ _ _ _ _ _ _ _ _ _ _ _ _ _ _ _ _ _ _ _
   | exact crc15_Bits.mono _ _
   | exact crc15_Right.mono _ _
   | exact LeO.none _
   | refine LeO.ite ?_ ?_
   | refine LeO.bind ?_ (fun _ => ?_)
  ·
   intro y0 y1 y2 y3 y4 y5 y6 y7 y8 y9 y10 y11 y12 y13 y14 y15 y16 y17 y18 y19 y20 y21
   unfold magnetolaw02_Crc15Turns.l0
   repeat' first
   | (with_reducible exact ih0 _ _ _ _ _ _ _ _ _ _ _ _ _ _ _ _ _ _ _ _ _)
   | (with_reducible exact ih1 _ _ _ _ _ _ _ _ _ _ _ _ _ _ _ _ _ _ _ _ _ _)
   | (with_reducible exact ih2 _ _ _ _ _ _ _ _ _ _ _ _ _ _ _ _ _ _ _ _ _ _ _)
   | (with_reducible exact crc15_Bits.mono _ _)
   | (with_reducible exact crc15_Right.mono _ _)
   | (with_reducible exact LeO.refl _)
   | (with_reducible exact LeO.none _)
   | (with_reducible refine LeO.ite ?_ ?_)
   | (with_reducible refine LeO.bind ?_ (fun _ => ?_))
   | exact ih0 _ _ _ _ _ _ _ _ _ _ _ _ _ _ _ _ _ _ _ _ _
   | exact ih1 _ _ _ _ _ _ _ _ _ _ _ _ _ _ _ _ _ _ _ _ _ _
   | exact ih2 _ _ _ _ _ _ _ _ _ _ _ _ _ _ _ _ _ _ _ _ _ _ _
   | exact crc15_Bits.mono _ _
   | exact crc15_Right.mono _ _
   | exact LeO.none _
   | refine LeO.ite ?_ ?_
   | refine LeO.bind ?_ (fun _ => ?_)
  ·
   intro y0 y1 y2 y3 y4 y5 y6 y7 y8 y9 y10 y11 y12 y13 y14 y15 y16 y17 y18 y19 y20 y21 y22
   unfold magnetolaw02_Crc15Turns.j2
   repeat' first
   | (with_reducible exact ih0 _ _ _ _ _ _ _ _ _ _ _ _ _ _ _ _ _ _ _ _ _)
   | (with_reducible exact ih1 _ _ _ _ _ _ _ _ _ _ _ _ _ _ _ _ _ _ _ _ _ _)
   | (with_reducible exact ih2 _ _ _ _ _ _ _ _ _ _ _ _ _ _ _ _ _ _ _ _ _ _ _)
   | (with_reducible exact crc15_Bits.mono _ _)
   | (with_reducible exact crc15_Right.mono _ _)
   | (with_reducible exact LeO.refl _)
   | (with_reducible exact LeO.none _)
   | (with_reducible refine LeO.ite ?_ ?_)
   | (with_reducible refine LeO.bind ?_ (fun _ => ?_))
   | exact ih0 _ _ _ _ _ _ _ _ _ _ _ _ _ _ _ _ _ _ _ _ _
   | exact ih1 _ _ _ _ _ _ _ _ _ _ _ _ _ _ _ _ _ _ _ _ _ _
   | exact ih2 _ _ _ _ _ _ _ _ _ _ _ _ _ _ _ _ _ _ _ _ _ _ _
   | exact crc15_Bits.mono _ _
   | exact crc15_Right.mono _ _
   | exact LeO.none _
   | refine LeO.ite ?_ ?_
   | refine LeO.bind ?_ (fun _ => ?_)
theorem magnetolaw02_Crc15Turns.mono : ∀ a0 a1 a2 a3 a4 a5 a6 a7 a8 a9 a10 a11 a12 a13 a14 a15 a16 k, LeO (magnetolaw02_Crc15Turns.f k a0 a1 a2 a3 a4 a5 a6 a7 a8 a9 a10 a11 a12 a13 a14 a15 a16) (magnetolaw02_Crc15Turns.f (k + 1) a0 a1 a2 a3 a4 a5 a6 a7 a8 a9 a10 a11 a12 a13 a14 a15 a16) := by
 intro a0 a1 a2 a3 a4 a5 a6 a7 a8 a9 a10 a11 a12 a13 a14 a15 a16 k
 obtain ⟨ih0, ih1, ih2⟩ := magnetolaw02_Crc15Turns.mono_l k
 unfold magnetolaw02_Crc15Turns.f
 repeat' first
   | (with_reducible exact ih0 _ _ _ _ _ _ _ _ _ _ _ _ _ _ _ _ _ _ _ _ _)
   | (with_reducible exact ih1 _ _ _ _ _ _ _ _ _ _ _ _ _ _ _ _ _ _ _ _ _ _)
   | (with_reducible exact ih2 _ _ _ _ _ _ _ _ _ _ _ _ _ _ _ _ _ _ _ _ _ _ _)
   | (with_reducible exact crc15_Bits.mono _ _)
   | (with_reducible exact crc15_Right.mono _ _)
   | (with_reducible exact LeO.refl _)
   | (with_reducible exact LeO.none _)
   | (with_reducible refine LeO.ite ?_ ?_)
   | (with_reducible refine LeO.bind ?_ (fun _ => ?_))
   | exact ih0 _ _ _ _ _ _ _ _ _ _ _ _ _ _ _ _ _ _ _ _ _
   | exact ih1 _ _ _ _ _ _ _ _ _ _ _ _ _ _ _ _ _ _ _ _ _ _
   | exact ih2 _ _ _ _ _ _ _ _ _ _ _ _ _ _ _ _ _ _ _ _ _ _ _
   | exact crc15_Bits.mono _ _
   | exact crc15_Right.mono _ _
   | exact LeO.none _
   | refine LeO.ite ?_ ?_
   | refine LeO.bind ?_ (fun _ => ?_)
set_option maxHeartbeats 8000000 in
set_option maxRecDepth 100000 in
theorem magnetolaw02_Crc15Turns.calls (k : Nat) (A0 : Option Addr) (c0 : Nat) (l0 : List Int) (a1 : Int) (a2_0 : Bool) (a2_1 : Bool) (a2_2 : Bool) (a2_3 : Bool) (a2_4 : Bool) (a2_5 : Bool) (a2_6 : Bool) (a2_7 : Bool) (a2_8 : Bool) (a2_9 : Bool) (a2_10 : Bool) (a2_11 : Bool) (a2_12 : Bool) (a2_13 : Bool) (a2_14 : Bool) (r : Bool) (w : World) (hr0 : Kd.C (Kd.int .i64) w A0 l0.length l0) (hc0 : l0.length ≤ c0) (h : magnetolaw02_Crc15Turns.f k l0 a1 a2_0 a2_1 a2_2 a2_3 a2_4 a2_5 a2_6 a2_7 a2_8 a2_9 a2_10 a2_11 a2_12 a2_13 a2_14 = some r) :
  Calls Try.prog 14 #[.slice A0 l0.length c0, .int .i64 a1, .agg #[.bool a2_0, .bool a2_1, .bool a2_2, .bool a2_3, .bool a2_4, .bool a2_5, .bool a2_6, .bool a2_7, .bool a2_8, .bool a2_9, .bool a2_10, .bool a2_11, .bool a2_12, .bool a2_13, .bool a2_14]] w fun e w' => e = .returned (.bool r) ∧ Below w.heap.size w w' := by
 have hu59 := Try.underlying59
 have HR0 := Aside0.mk hr0
 have HC0 := Aside0.mk hc0
 clear hr0 hc0
 have HB := Aside0.mk (Below.refl w.heap.size w)
 have H : (if (l0.length : Int) > 300 then ((magnetolaw02_awake.f).bind fun t657 => (some t657)) else ((crc15_Sum.f l0).bind fun bt658 => ((crc15_Bits.f k bt658.1).bind fun bt660 => (if bt658.2 = 0 then (magnetolaw02_Crc15Turns.j0 k l0 a1 bt658.1 bt658.2 bt660.1 (bt660.2 != 0) a2_0 a2_1 a2_2 a2_3 a2_4 a2_5 a2_6 a2_7 a2_8 a2_9 a2_10 a2_11 a2_12 a2_13 a2_14) else (magnetolaw02_Crc15Turns.j0 k l0 a1 bt658.1 bt658.2 bt660.1 true a2_0 a2_1 a2_2 a2_3 a2_4 a2_5 a2_6 a2_7 a2_8 a2_9 a2_10 a2_11 a2_12 a2_13 a2_14))))) = some r := h
 clear h
 by_cases c4 : (l0.length : Int) > 300
 ·
  rw [if_pos c4] at H
  have c4b0 : decide (300 < (l0.length : Int)) = true := decide_eq_true c4
  have c4b1 : decide (300 < l0.length) = true := decide_eq_true (by omega)
  clear c4
  replace H := Option.bind_eq_some_iff.mp H
  obtain ⟨t657, A50, H⟩ := H
  replace H : (some t657) = some r := H
  have A5 := Aside0.mk A50
  clear A50
  obtain rfl := Option.some.inj H
  go_enter Try.func14, Try.ntmps14
  go_wp2_with (first | ((with_reducible refine gate_dst (N := 5) rfl ?_); (try (refine gate_guard (by rfl) ?_; dsimp only)); refine box_event ?hg (N := 5) ?hd (cs := #[.bool a2_0, .bool a2_1, .bool a2_2, .bool a2_3, .bool a2_4, .bool a2_5, .bool a2_6, .bool a2_7, .bool a2_8, .bool a2_9, .bool a2_10, .bool a2_11, .bool a2_12, .bool a2_13, .bool a2_14]) (t := 59) ?hr ?_; (case hd => rfl); (case hg => rfl); (case hr => first | (go_simp; done) | (go_simp; rfl)); intro gb656 hg w6 hbox hb; have n0_ := Aside0.mk (below_step (by repeat (first | (with_reducible first | exact HB.out | apply below_alloc | apply pw_below_drewN | apply below_drew1) | exact HB.out)) hb); have n1_ := Aside0.mk (hbox); have n2_ := Aside0.mk ((by rw [hg]; exact (below_size (by repeat (first | (with_reducible first | exact HB.out | apply below_alloc | apply pw_below_drewN | apply below_drew1) | exact HB.out))) : w.heap.size ≤ gb656)); have n3_ := Aside0.mk ((by rw [hg]; exact (below_size (by repeat (first | (with_reducible first | exact HB.out | apply below_alloc | apply pw_below_drewN | apply below_drew1) | exact HB.out))) : w.heap.size ≤ gb656)); clear HB; have HB := n0_; have BK656 := n1_; have GW656 := n2_; have GE656 := n3_; clear n0_ n1_ n2_ n3_; clear hb hbox hg) | ((with_reducible refine gate_callee (f := 21) rfl ?_); refine goesL_ (some 20) rfl rfl Try.func21 (by kernel_rfl) rfl #[] rfl (by (try simp only [List.map_toArray, List.map_cons, List.map_nil]); first | done | rfl | (simp only [List.length_drop, List.length_take]; rfl)) ?_; (with_reducible refine (magnetolaw02_awake.calls  t657 _ A5.out).mono ?_); rintro e w7 ⟨rfl, hb⟩; refine ⟨_, rfl, ?_⟩; have n0_ := Aside0.mk (blk_below (g := gb656) (o := .cells #[.bool a2_0, .bool a2_1, .bool a2_2, .bool a2_3, .bool a2_4, .bool a2_5, .bool a2_6, .bool a2_7, .bool a2_8, .bool a2_9, .bool a2_10, .bool a2_11, .bool a2_12, .bool a2_13, .bool a2_14] 59 (0, 0)) (by (with_reducible repeat (first | refine blk_drewN ?_ _ | refine blk_drew ?_ | refine blk_alloc ?_ _)); exact BK656.out) hb); have n1_ := Aside0.mk (below_step (by repeat (first | (with_reducible first | exact HB.out | apply below_alloc | apply pw_below_drewN | apply below_drew1 | refine below_set ?_ GE656.out) | exact HB.out)) hb); clear BK656; clear HB; have BK656 := n0_; have HB := n1_; clear n0_ n1_; (try clear hb); (try clear hb2); (try clear hk); (try clear hi)))
  go_ret
  exact ⟨by first | rfl | (simp [errW_none, errW_some] <;> rfl) | (simp [*, errW_none, errW_some] <;> rfl), by repeat (first | (with_reducible first | exact HB.out | apply below_alloc | apply pw_below_drewN | apply below_drew1 | refine below_set ?_ GE656.out) | exact HB.out)⟩
 ·
  rw [if_neg c4] at H
  have c4b0 : decide (300 < (l0.length : Int)) = false := decide_eq_false c4
  have c4b1 : decide (300 < l0.length) = false := decide_eq_false (by omega)
  clear c4
  replace H := Option.bind_eq_some_iff.mp H
  obtain ⟨⟨t658, t659⟩, A80, H⟩ := H
  replace H : ((crc15_Bits.f k t658).bind fun bt660 => (if t659 = 0 then (magnetolaw02_Crc15Turns.j0 k l0 a1 t658 t659 bt660.1 (bt660.2 != 0) a2_0 a2_1 a2_2 a2_3 a2_4 a2_5 a2_6 a2_7 a2_8 a2_9 a2_10 a2_11 a2_12 a2_13 a2_14) else (magnetolaw02_Crc15Turns.j0 k l0 a1 t658 t659 bt660.1 true a2_0 a2_1 a2_2 a2_3 a2_4 a2_5 a2_6 a2_7 a2_8 a2_9 a2_10 a2_11 a2_12 a2_13 a2_14))) = some r := H
  have A8 := Aside0.mk A80
  clear A80
  replace H := Option.bind_eq_some_iff.mp H
  obtain ⟨⟨t660, t661⟩, A90, H⟩ := H
  replace H : (if t659 = 0 then (magnetolaw02_Crc15Turns.j0 k l0 a1 t658 t659 t660 (t661 != 0) a2_0 a2_1 a2_2 a2_3 a2_4 a2_5 a2_6 a2_7 a2_8 a2_9 a2_10 a2_11 a2_12 a2_13 a2_14) else (magnetolaw02_Crc15Turns.j0 k l0 a1 t658 t659 t660 true a2_0 a2_1 a2_2 a2_3 a2_4 a2_5 a2_6 a2_7 a2_8 a2_9 a2_10 a2_11 a2_12 a2_13 a2_14)) = some r := H
  have A9 := Aside0.mk A90
  clear A90
  have HC10 := Aside0.mk H
  clear H
  go_enter Try.func14, Try.ntmps14
  go_upto_region 5 with (first | ((with_reducible refine gate_dst (N := 5) rfl ?_); (try (refine gate_guard (by rfl) ?_; dsimp only)); refine box_event ?hg (N := 5) ?hd (cs := #[.bool a2_0, .bool a2_1, .bool a2_2, .bool a2_3, .bool a2_4, .bool a2_5, .bool a2_6, .bool a2_7, .bool a2_8, .bool a2_9, .bool a2_10, .bool a2_11, .bool a2_12, .bool a2_13, .bool a2_14]) (t := 59) ?hr ?_; (case hd => rfl); (case hg => rfl); (case hr => first | (go_simp; done) | (go_simp; rfl)); intro gb656 hg w11 hbox hb; have n0_ := Aside0.mk (below_step (by repeat (first | (with_reducible first | exact HB.out | apply below_alloc | apply pw_below_drewN | apply below_drew1) | exact HB.out)) hb); have n1_ := Aside0.mk (hbox); have n2_ := Aside0.mk ((by rw [hg]; exact (below_size (by repeat (first | (with_reducible first | exact HB.out | apply below_alloc | apply pw_below_drewN | apply below_drew1) | exact HB.out))) : w.heap.size ≤ gb656)); have n3_ := Aside0.mk ((by rw [hg]; exact (below_size (by repeat (first | (with_reducible first | exact HB.out | apply below_alloc | apply pw_below_drewN | apply below_drew1) | exact HB.out))) : w.heap.size ≤ gb656)); clear HB; have HB := n0_; have BK656 := n1_; have GW656 := n2_; have GE656 := n3_; clear n0_ n1_ n2_ n3_; clear hb hbox hg) | ((with_reducible refine gate_callee (f := 22) rfl ?_); refine goesL_ (some 23) rfl rfl Try.func22 (by kernel_rfl) rfl #[.slice A0 l0.length c0] rfl (by (try simp only [List.map_toArray, List.map_cons, List.map_nil]); first | done | rfl | (simp only [List.length_drop, List.length_take]; rfl)) ?_; (with_reducible refine (crc15_Sum.calls _ _ l0 t658 t659 _ ?side1 ?side2 A8.out).mono ?_); (case side1 => repeat (first | exact (Kd.C_below HR0.out HB.out) | (with_reducible refine Kd.C_alloc ?_ _) | (with_reducible refine Kd.C_drewN ?_ _) | (with_reducible refine Kd.C_drew ?_))); (case side2 => exact HC0.out); rintro e w12 ⟨rfl, hb⟩; refine ⟨_, rfl, ?_⟩; have n0_ := Aside0.mk (blk_below (g := gb656) (o := .cells #[.bool a2_0, .bool a2_1, .bool a2_2, .bool a2_3, .bool a2_4, .bool a2_5, .bool a2_6, .bool a2_7, .bool a2_8, .bool a2_9, .bool a2_10, .bool a2_11, .bool a2_12, .bool a2_13, .bool a2_14] 59 (0, 0)) (by (with_reducible repeat (first | refine blk_drewN ?_ _ | refine blk_drew ?_ | refine blk_alloc ?_ _)); exact BK656.out) hb); have n1_ := Aside0.mk (below_step (by repeat (first | (with_reducible first | exact HB.out | apply below_alloc | apply pw_below_drewN | apply below_drew1 | refine below_set ?_ GE656.out) | exact HB.out)) hb); clear BK656; clear HB; have BK656 := n0_; have HB := n1_; clear n0_ n1_; (try clear hb); (try clear hb2); (try clear hk); (try clear hi)) | ((with_reducible refine gate_callee (f := 24) rfl ?_); refine goesL_ (some 28) rfl rfl Try.func24 (by kernel_rfl) rfl #[.int .i64 t658] rfl (by (try simp only [List.map_toArray, List.map_cons, List.map_nil]); first | done | rfl | (simp only [List.length_drop, List.length_take]; rfl)) ?_; (with_reducible refine (crc15_Bits.calls k t658 t660 t661 _ A9.out).mono ?_); rintro e w13 ⟨v662, rfl, ho0, hb⟩; refine ⟨_, rfl, ?_⟩; have n0_ := Aside0.mk (Kd.R_lower ho0 (below_size (by repeat (first | (with_reducible first | exact HB.out | apply below_alloc | apply pw_below_drewN | apply below_drew1 | refine below_set ?_ GE656.out) | exact HB.out)))); have n1_ := Aside0.mk (blk_below (g := gb656) (o := .cells #[.bool a2_0, .bool a2_1, .bool a2_2, .bool a2_3, .bool a2_4, .bool a2_5, .bool a2_6, .bool a2_7, .bool a2_8, .bool a2_9, .bool a2_10, .bool a2_11, .bool a2_12, .bool a2_13, .bool a2_14] 59 (0, 0)) (by (with_reducible repeat (first | refine blk_drewN ?_ _ | refine blk_drew ?_ | refine blk_alloc ?_ _)); exact BK656.out) hb); have n2_ := Aside0.mk (below_step (by repeat (first | (with_reducible first | exact HB.out | apply below_alloc | apply pw_below_drewN | apply below_drew1 | refine below_set ?_ GE656.out) | exact HB.out)) hb); clear BK656; clear HB; have HO663 := n0_; have BK656 := n1_; have HB := n2_; clear n0_ n1_ n2_; (try clear hb); (try clear hb2); (try clear hk); (try clear hi); (try clear ho0)))
  (try simp only [Act.put, List.setIfInBounds_toArray, List.set_cons_zero, List.set_cons_succ])
  go_cut [36] (fun v36 wc => ∃ (kq : Nat) (x36_9 : Bool), v36 = .bool x36_9 ∧ Aside0 (magnetolaw02_Crc15Turns.j0 kq l0 a1 t658 t659 t660 x36_9 a2_0 a2_1 a2_2 a2_3 a2_4 a2_5 a2_6 a2_7 a2_8 a2_9 a2_10 a2_11 a2_12 a2_13 a2_14 = some r) ∧ Aside0 (kq ≤ k) ∧ Aside0 (Kd.R (Kd.int .i64) 3 wc w.heap.size (fun _ => True) v662 t660) ∧ Aside0 (wc.heap[gb656]? = some (.cells #[.bool a2_0, .bool a2_1, .bool a2_2, .bool a2_3, .bool a2_4, .bool a2_5, .bool a2_6, .bool a2_7, .bool a2_8, .bool a2_9, .bool a2_10, .bool a2_11, .bool a2_12, .bool a2_13, .bool a2_14] 59 (0, 0))) ∧ Aside0 (Below w.heap.size w wc))
  case first =>
   have H := HC10.out
   clear HC10
   by_cases c14 : t659 = 0
   ·
    rw [if_pos c14] at H
    have c14b0 : (t659 == 0) = true := beq_iff_eq.mpr c14
    have c14b1 : (t659 != 0) = false := bne_eq_false_iff_eq.mpr c14
    clear c14
    (first | rw [c14b0] | (simp only [i64_w, i32_w]; rw [c14b0]) | skip)
    have H' := Aside0.mk H
    clear H
    go_wp2
    go_meet
    case rel => exact ⟨_, ((t661 != 0)), (by first | rfl | (simp; done) | (simp [*]; done)), H', ⟨by first | omega | exact Nat.le_refl _⟩, ⟨by (with_reducible repeat (first | apply Kd.R_alloc | apply Kd.R_drewN | apply Kd.R_drew)); exact HO663.out⟩, ⟨by (with_reducible repeat (first | refine blk_drewN ?_ _ | refine blk_drew ?_ | refine blk_alloc ?_ _)); exact BK656.out⟩, ⟨by repeat (first | (with_reducible first | exact HB.out | apply below_alloc | apply pw_below_drewN | apply below_drew1 | refine below_set ?_ GE656.out) | exact HB.out)⟩⟩
   ·
    rw [if_neg c14] at H
    have c14b0 : (t659 == 0) = false := beq_eq_false_iff_ne.mpr c14
    have c14b1 : (t659 != 0) = true := bne_iff_ne.mpr c14
    (first | rw [c14b0] | (simp only [i64_w, i32_w]; rw [c14b0]) | skip)
    have H' := Aside0.mk H
    clear H
    go_wp2
    go_meet
    case rel => exact ⟨_, (true), (by first | rfl | (simp; done) | (simp [*]; done)), H', ⟨by first | omega | exact Nat.le_refl _⟩, ⟨by (with_reducible repeat (first | apply Kd.R_alloc | apply Kd.R_drewN | apply Kd.R_drew)); exact HO663.out⟩, ⟨by (with_reducible repeat (first | refine blk_drewN ?_ _ | refine blk_drew ?_ | refine blk_alloc ?_ _)); exact BK656.out⟩, ⟨by repeat (first | (with_reducible first | exact HB.out | apply below_alloc | apply pw_below_drewN | apply below_drew1 | refine below_set ?_ GE656.out) | exact HB.out)⟩⟩
  case rest =>
   clear HC10
   try clear c1
   try clear c2
   try clear p2
   try clear c4
   try clear c4b0
   try clear c4b1
   try clear c14
   try clear c14b0
   try clear c14b1
   obtain ⟨kq, x36_9, rfl, HA, HJ9, HO_9, BK656, HB⟩ := hcut
   cases kq with
   | zero => exact absurd HA.out (by simp [magnetolaw02_Crc15Turns.j0])
   | succ kj9 =>
    have H := HA.out
    clear HA
    simp only [magnetolaw02_Crc15Turns.j0] at H
    by_cases c15 : x36_9 = true
    ·
     subst c15
     have H1 : (if t659 = 10 then ((magnetolaw02_awake.f).bind fun t664 => (some t664)) else (none)) = some r := by rw [if_pos rfl] at H; exact H
     clear H
     have H := H1
     clear H1
     by_cases c16 : t659 = 10
     ·
      rw [if_pos c16] at H
      have c16b0 : (t659 == 10) = true := beq_iff_eq.mpr c16
      have c16b1 : (t659 != 10) = false := bne_eq_false_iff_eq.mpr c16
      clear c16
      replace H := Option.bind_eq_some_iff.mp H
      obtain ⟨t664, A170, H⟩ := H
      replace H : (some t664) = some r := H
      have A17 := Aside0.mk A170
      clear A170
      obtain rfl := Option.some.inj H
      go_wp2_with (first | (go_at_call 21; (with_reducible refine (magnetolaw02_awake.calls  t664 _ A17.out).mono ?_); rintro e w18 ⟨rfl, hb⟩; have n0_ := Aside0.mk (Kd.R_below (by (with_reducible repeat (first | apply Kd.R_alloc | apply Kd.R_drewN | apply Kd.R_drew)); exact HO_9.out) hb); have n1_ := Aside0.mk (blk_below (g := gb656) (o := .cells #[.bool a2_0, .bool a2_1, .bool a2_2, .bool a2_3, .bool a2_4, .bool a2_5, .bool a2_6, .bool a2_7, .bool a2_8, .bool a2_9, .bool a2_10, .bool a2_11, .bool a2_12, .bool a2_13, .bool a2_14] 59 (0, 0)) (by (with_reducible repeat (first | refine blk_drewN ?_ _ | refine blk_drew ?_ | refine blk_alloc ?_ _)); exact BK656.out) hb); have n2_ := Aside0.mk (below_step (by repeat (first | (with_reducible first | exact HB.out | apply below_alloc | apply pw_below_drewN | apply below_drew1 | refine below_set ?_ GE656.out) | exact HB.out)) hb); clear HO_9; clear BK656; clear HB; have HO_9 := n0_; have BK656 := n1_; have HB := n2_; clear n0_ n1_ n2_; (try clear hb); (try clear hb2); (try clear hk); (try clear hi)))
      go_ret
      exact ⟨by first | rfl | (simp [errW_none, errW_some] <;> rfl) | (simp [*, errW_none, errW_some] <;> rfl), by repeat (first | (with_reducible first | exact HB.out | apply below_alloc | apply pw_below_drewN | apply below_drew1 | refine below_set ?_ GE656.out) | exact HB.out)⟩
     ·
      rw [if_neg c16] at H
      exact absurd H (by simp)
    ·
     replace c15 := Bool.eq_false_iff.mpr c15
     subst c15
     have H1 : ((some (([] : List Int) : List Int)).bind fun y665 => (if y665.length + l0.length < 17592186044416 then ((some (y665 ++ l0 : List Int)).bind fun y668 => (if y668.length + t660.length < 17592186044416 then ((some (y668 ++ t660 : List Int)).bind fun y671 => (if (y671.length : Int) = 0 then (none) else (magnetolaw02_Crc15Turns.l0 kj9 l0 (Int.tmod (wrap64 ((Int.tmod a1 (y671.length : Int)) + (y671.length : Int))) (y671.length : Int)) t658 y671 false false 0 a2_0 a2_1 a2_2 a2_3 a2_4 a2_5 a2_6 a2_7 a2_8 a2_9 a2_10 a2_11 a2_12 a2_13 a2_14))) else (none))) else (none))) = some r := by rw [if_neg (show ¬ (false = true) by decide)] at H; exact H
     clear H
     have H := H1
     clear H1
     obtain ⟨y665, hy665⟩ : ∃ y_ : List Int, y_ = (([] : List Int)) := ⟨_, rfl⟩
     replace H : (if y665.length + l0.length < 17592186044416 then ((some (y665 ++ l0 : List Int)).bind fun y668 => (if y668.length + t660.length < 17592186044416 then ((some (y668 ++ t660 : List Int)).bind fun y671 => (if (y671.length : Int) = 0 then (none) else (magnetolaw02_Crc15Turns.l0 kj9 l0 (Int.tmod (wrap64 ((Int.tmod a1 (y671.length : Int)) + (y671.length : Int))) (y671.length : Int)) t658 y671 false false 0 a2_0 a2_1 a2_2 a2_3 a2_4 a2_5 a2_6 a2_7 a2_8 a2_9 a2_10 a2_11 a2_12 a2_13 a2_14))) else (none))) else (none)) = some r := by first | (rw [hy665]; with_reducible exact H) | (have H2_ := (Option.bind_some _ _).symm.trans H; rw [hy665]; with_reducible exact H2_) | (have H2_ := (Option.bind_some _ _).symm.trans H; with_reducible exact H2_) | with_reducible exact H | (rw [hy665]; exact H) | exact H
     have Ny665 := Aside0.mk hy665
     clear hy665
     by_cases c19 : y665.length + l0.length < 17592186044416
     ·
      rw [if_pos c19] at H
      have LMc19 := Aside0.mk c19
      clear c19
      obtain ⟨y668, hy668⟩ : ∃ y_ : List Int, y_ = (y665 ++ l0) := ⟨_, rfl⟩
      replace H : (if y668.length + t660.length < 17592186044416 then ((some (y668 ++ t660 : List Int)).bind fun y671 => (if (y671.length : Int) = 0 then (none) else (magnetolaw02_Crc15Turns.l0 kj9 l0 (Int.tmod (wrap64 ((Int.tmod a1 (y671.length : Int)) + (y671.length : Int))) (y671.length : Int)) t658 y671 false false 0 a2_0 a2_1 a2_2 a2_3 a2_4 a2_5 a2_6 a2_7 a2_8 a2_9 a2_10 a2_11 a2_12 a2_13 a2_14))) else (none)) = some r := by first | (rw [hy668]; with_reducible exact H) | (have H2_ := (Option.bind_some _ _).symm.trans H; rw [hy668]; with_reducible exact H2_) | (have H2_ := (Option.bind_some _ _).symm.trans H; with_reducible exact H2_) | with_reducible exact H | (rw [hy668]; exact H) | exact H
      have Ny668 := Aside0.mk hy668
      clear hy668
      by_cases c20 : y668.length + t660.length < 17592186044416
      ·
       rw [if_pos c20] at H
       have LMc20 := Aside0.mk c20
       clear c20
       obtain ⟨y671, hy671⟩ : ∃ y_ : List Int, y_ = (y668 ++ t660) := ⟨_, rfl⟩
       replace H : (if (y671.length : Int) = 0 then (none) else (magnetolaw02_Crc15Turns.l0 kj9 l0 (Int.tmod (wrap64 ((Int.tmod a1 (y671.length : Int)) + (y671.length : Int))) (y671.length : Int)) t658 y671 false false 0 a2_0 a2_1 a2_2 a2_3 a2_4 a2_5 a2_6 a2_7 a2_8 a2_9 a2_10 a2_11 a2_12 a2_13 a2_14)) = some r := by first | (rw [hy671]; with_reducible exact H) | (have H2_ := (Option.bind_some _ _).symm.trans H; rw [hy671]; with_reducible exact H2_) | (have H2_ := (Option.bind_some _ _).symm.trans H; with_reducible exact H2_) | with_reducible exact H | (rw [hy671]; exact H) | exact H
       have Ny671 := Aside0.mk hy671
       clear hy671
       by_cases c21 : (y671.length : Int) = 0
       ·
        rw [if_pos c21] at H
        exact absurd H (by simp)
       ·
        rw [if_neg c21] at H
        have c21b0 : ((y671.length : Int) == 0) = false := beq_eq_false_iff_ne.mpr c21
        have c21b1 : ((y671.length : Int) != 0) = true := bne_iff_ne.mpr c21
        have c21b2 : ¬ (y671 = []) := fun h_ => c21 (by rw [h_]; rfl)
        have H' := Aside0.mk H
        clear H
        go_wp2_with (first | ((with_reducible refine gate_dst (N := 42) rfl ?_); (try (refine gate_guard (by rfl) ?_; dsimp only)); refine Kd.R_lit (Kd.int .i64) _ 3 ?hg (N := 42) ?hd (xs := ([] : List Int)) (inner := []) (ok := fun _ => True) (okp := fun _ => True) ?hr ?hp (fun _ hk => hk) trivial (Below.refl _ _) (Nat.le_refl _) (by simp) ?_; (case hd => rfl); (case hg => rfl); (case hr => first | (go_simp; done) | (go_simp; rfl)); (case hp => exact (Reps.none _ _)); intro v666 w22 ho23 hb hg_ hnew_; clear hg_ hnew_; (first | rw [← Ny665.out] at ho23 | (simp only [Int.reduceToNat] at ho23; rw [← Ny665.out] at ho23)); have n0_ := Aside0.mk (Kd.R_elder' (by (with_reducible repeat (first | apply Kd.R_alloc | apply Kd.R_drewN | apply Kd.R_drew)); exact HO_9.out) (Kd.R_base ho23) hb); have n1_ := Aside0.mk (Kd.R_lower (Kd.R_new' ho23 (Kd.R_lt (by (with_reducible repeat (first | apply Kd.R_alloc | apply Kd.R_drewN | apply Kd.R_drew)); exact HO_9.out))) (below_size (by repeat (first | (with_reducible first | exact HB.out | apply below_alloc | apply pw_below_drewN | apply below_drew1 | refine below_set ?_ GE656.out) | exact HB.out)))); have n2_ := Aside0.mk (blk_below (g := gb656) (o := .cells #[.bool a2_0, .bool a2_1, .bool a2_2, .bool a2_3, .bool a2_4, .bool a2_5, .bool a2_6, .bool a2_7, .bool a2_8, .bool a2_9, .bool a2_10, .bool a2_11, .bool a2_12, .bool a2_13, .bool a2_14] 59 (0, 0)) (by (with_reducible repeat (first | refine blk_drewN ?_ _ | refine blk_drew ?_ | refine blk_alloc ?_ _)); exact BK656.out) hb); have n3_ := Aside0.mk (below_step (by repeat (first | (with_reducible first | exact HB.out | apply below_alloc | apply pw_below_drewN | apply below_drew1 | refine below_set ?_ GE656.out) | exact HB.out)) hb); clear HO_9; clear BK656; clear HB; have HO_9 := n0_; have HO667 := n1_; have BK656 := n2_; have HB := n3_; clear n0_ n1_ n2_ n3_; clear hb ho23) | ((with_reducible refine gate_builtin (b := .append) (xs := #[.tmp 42, .tmp 43]) rfl ?_); (try (refine gate_guard (by rfl) ?_; dsimp only)); at_builtin; refine Kd.R_append_rows (Kd.int .i64) (w0 := w) w.heap.size rfl (.tmp 42) (.tmp 43) 22 3 (.int .i64 0) 8 rfl Try.underlying22 info3 rfl (by decide) (by omega) v666 y665 l0 _ _ _ (fun k_ => some k_ ≠ (v662 : Value).ownBlock) (fun _ => False) rfl rfl ?aO ?aR (fun _ _ h => h) (fun _ h => h.elim) ?aF ?aB ?aS ?aL ?_; (case aR => repeat (first | exact (Kd.C_below HR0.out HB.out) | (with_reducible refine Kd.C_alloc ?_ _) | (with_reducible refine Kd.C_drewN ?_ _) | (with_reducible refine Kd.C_drew ?_))); (case aB => exact (by repeat (first | (with_reducible first | exact HB.out | apply below_alloc | apply pw_below_drewN | apply below_drew1 | refine below_set ?_ GE656.out) | exact HB.out))); (case aF => exact (fun k_ hk => Kd.fresh' (Kd.R_lt (by (with_reducible repeat (first | apply Kd.R_alloc | apply Kd.R_drewN | apply Kd.R_drew)); exact HO_9.out)) k_ hk)); (case aO => exact (by (with_reducible repeat (first | apply Kd.R_alloc | apply Kd.R_drewN | apply Kd.R_drew)); exact Kd.R_mono HO667.out (fun _ hk => hk.2))); (case aS => exact (below_size (by repeat (first | (with_reducible first | exact HB.out | apply below_alloc | apply pw_below_drewN | apply below_drew1 | refine below_set ?_ GE656.out) | exact HB.out)))); (case aL => have := LMc19.out; omega); intro v669 w24 ho hb hg hat; rw [← Ny668.out] at ho; have n0_ := Aside0.mk (Kd.R_after (ok := (fun _ => True)) (by (with_reducible repeat (first | apply Kd.R_alloc | apply Kd.R_drewN | apply Kd.R_drew)); exact HO_9.out) hg hat); have n1_ := Aside0.mk (blk_grown (g := gb656) (o := .cells #[.bool a2_0, .bool a2_1, .bool a2_2, .bool a2_3, .bool a2_4, .bool a2_5, .bool a2_6, .bool a2_7, .bool a2_8, .bool a2_9, .bool a2_10, .bool a2_11, .bool a2_12, .bool a2_13, .bool a2_14] 59 (0, 0)) (by (with_reducible repeat (first | refine blk_drewN ?_ _ | refine blk_drew ?_ | refine blk_alloc ?_ _)); exact BK656.out) hg (Kd.R_ne HO667.out BK656.out (by decide))); have n2_ := Aside0.mk (hb); have n3_ := Aside0.mk (ho); clear HO_9; clear BK656; clear HB; clear HO667; have HO_9 := n0_; have BK656 := n1_; have HB := n2_; have HO670 := n3_; clear n0_ n1_ n2_ n3_; clear ho hb hg hat; obtain ⟨Ao26, co26, eo26⟩ := Kd.R_slice HO_9.out; subst eo26) | ((with_reducible refine gate_builtin (b := .append) (xs := #[.tmp 44, .tmp 45]) rfl ?_); (try (refine gate_guard (by rfl) ?_; dsimp only)); at_builtin; refine Kd.R_append_rows (Kd.int .i64) (w0 := w) w.heap.size rfl (.tmp 44) (.tmp 45) 22 3 (.int .i64 0) 8 rfl Try.underlying22 info3 rfl (by decide) (by omega) v669 y668 t660 _ _ _ (fun k_ => some k_ ≠ (.slice Ao26 t660.length co26 : Value).ownBlock) (fun _ => False) rfl rfl ?aO ?aR (fun _ _ h => h) (fun _ h => h.elim) ?aF ?aB ?aS ?aL ?_; (case aR => repeat (first | exact (Kd.R_reads' HO_9.out).2.2 | (with_reducible refine Kd.C_alloc ?_ _) | (with_reducible refine Kd.C_drewN ?_ _) | (with_reducible refine Kd.C_drew ?_))); (case aB => exact (by repeat (first | (with_reducible first | exact HB.out | apply below_alloc | apply pw_below_drewN | apply below_drew1 | refine below_set ?_ GE656.out) | exact HB.out))); (case aF => exact (fun k_ hk => Kd.fresh' (Kd.R_lt (by (with_reducible repeat (first | apply Kd.R_alloc | apply Kd.R_drewN | apply Kd.R_drew)); exact HO_9.out)) k_ hk)); (case aO => exact (by (with_reducible repeat (first | apply Kd.R_alloc | apply Kd.R_drewN | apply Kd.R_drew)); exact HO670.out)); (case aS => exact (below_size (by repeat (first | (with_reducible first | exact HB.out | apply below_alloc | apply pw_below_drewN | apply below_drew1 | refine below_set ?_ GE656.out) | exact HB.out)))); (case aL => have := LMc20.out; omega); intro v672 w25 ho hb hg hat; rw [← Ny671.out] at ho; have n0_ := Aside0.mk (Kd.R_after (ok := (fun _ => True)) (by (with_reducible repeat (first | apply Kd.R_alloc | apply Kd.R_drewN | apply Kd.R_drew)); exact HO_9.out) hg hat); have n1_ := Aside0.mk (blk_grown (g := gb656) (o := .cells #[.bool a2_0, .bool a2_1, .bool a2_2, .bool a2_3, .bool a2_4, .bool a2_5, .bool a2_6, .bool a2_7, .bool a2_8, .bool a2_9, .bool a2_10, .bool a2_11, .bool a2_12, .bool a2_13, .bool a2_14] 59 (0, 0)) (by (with_reducible repeat (first | refine blk_drewN ?_ _ | refine blk_drew ?_ | refine blk_alloc ?_ _)); exact BK656.out) hg (Kd.R_ne HO670.out BK656.out (by decide))); have n2_ := Aside0.mk (hb); have n3_ := Aside0.mk (ho); clear HO_9; clear BK656; clear HB; clear HO670; have HO_9 := n0_; have BK656 := n1_; have HB := n2_; have HO673 := n3_; clear n0_ n1_ n2_ n3_; clear ho hb hg hat; obtain ⟨Ao27, co27, eo27⟩ := Kd.R_slice HO673.out; subst eo27))
        go_loopg [12, 13, 14] kj9 (fun kq v12 v13 v14 w' => ∃ (x11_2 : List Int) (x12_2 : Bool) (x13_2 : Bool) (x14_2 : Int), v12 = .bool x12_2 ∧ v13 = .bool x13_2 ∧ v14 = .int .i64 x14_2 ∧ Aside0 (magnetolaw02_Crc15Turns.l0 kq l0 (Int.tmod (wrap64 ((Int.tmod a1 (y671.length : Int)) + (y671.length : Int))) (y671.length : Int)) t658 x11_2 x12_2 x13_2 x14_2 a2_0 a2_1 a2_2 a2_3 a2_4 a2_5 a2_6 a2_7 a2_8 a2_9 a2_10 a2_11 a2_12 a2_13 a2_14 = some r) ∧ Aside0 (kq ≤ kj9) ∧ Aside0 (Kd.R (Kd.int .i64) 3 w' w.heap.size (fun _ => True) (.slice Ao27 y671.length co27) x11_2) ∧ Aside0 (w'.heap[gb656]? = some (.cells #[.bool a2_0, .bool a2_1, .bool a2_2, .bool a2_3, .bool a2_4, .bool a2_5, .bool a2_6, .bool a2_7, .bool a2_8, .bool a2_9, .bool a2_10, .bool a2_11, .bool a2_12, .bool a2_13, .bool a2_14] 59 (0, 0))) ∧ Aside0 (Below w.heap.size w w'))
        case atStart => exact ⟨(y671), (false), (false), (0), (by first | rfl | (simp; done) | (simp [*]; done)), (by first | rfl | (simp; done) | (simp [*]; done)), (by first | rfl | (simp; done) | (simp [*]; done)), H', ⟨Nat.le_refl _⟩, ⟨by (with_reducible repeat (first | apply Kd.R_alloc | apply Kd.R_drewN | apply Kd.R_drew)); exact Kd.R_mono HO673.out (fun _ hk => trivial)⟩, ⟨by (with_reducible repeat (first | refine blk_drewN ?_ _ | refine blk_drew ?_ | refine blk_alloc ?_ _)); exact BK656.out⟩, ⟨by repeat (first | (with_reducible first | exact HB.out | apply below_alloc | apply pw_below_drewN | apply below_drew1 | refine below_set ?_ GE656.out) | exact HB.out)⟩⟩
        case round =>
         clear H'
         try clear c1
         try clear c2
         try clear p2
         try clear c4
         try clear c4b0
         try clear c4b1
         try clear p6
         try clear c14
         try clear c14b0
         try clear c14b1
         try clear c15
         try clear c16
         try clear c16b0
         try clear c16b1
         try clear c19
         try clear c20
         try clear c21
         try clear c21b0
         try clear c21b1
         try clear c21b2
         try clear c22
         try clear c24
         try clear p2
         obtain ⟨x11_2, x12_2, x13_2, x14_2, rfl, rfl, rfl, HA, HK2, HO_11, BK656, HB⟩ := hrel
         have hl11_2 := (Kd.R_reads' HO_11.out).1
         rw [hl11_2] at HO_11
         (try simp only [hl11_2])
         (try simp only [hl11_2] at BK656)
         cases gk with
         | zero => exact absurd HA.out (by simp [magnetolaw02_Crc15Turns.l0])
         | succ k2 =>
          have H := HA.out
          clear HA
          simp only [magnetolaw02_Crc15Turns.l0] at H
          have HC28 := Aside0.mk H
          clear H
          go_upto_region 14 with (fail)
          go_cut [69] (fun v69 wc => ∃ (kq : Nat) (x69_27 : Bool), v69 = .bool x69_27 ∧ Aside0 (magnetolaw02_Crc15Turns.j2 kq l0 (Int.tmod (wrap64 ((Int.tmod a1 (y671.length : Int)) + (y671.length : Int))) (y671.length : Int)) t658 x11_2 x12_2 x13_2 x14_2 x69_27 a2_0 a2_1 a2_2 a2_3 a2_4 a2_5 a2_6 a2_7 a2_8 a2_9 a2_10 a2_11 a2_12 a2_13 a2_14 = some r) ∧ Aside0 (kq ≤ k2) ∧ Aside0 (Kd.R (Kd.int .i64) 3 wc w.heap.size (fun _ => True) (.slice Ao27 x11_2.length co27) x11_2) ∧ Aside0 (wc.heap[gb656]? = some (.cells #[.bool a2_0, .bool a2_1, .bool a2_2, .bool a2_3, .bool a2_4, .bool a2_5, .bool a2_6, .bool a2_7, .bool a2_8, .bool a2_9, .bool a2_10, .bool a2_11, .bool a2_12, .bool a2_13, .bool a2_14] 59 (0, 0))) ∧ Aside0 (Below w.heap.size w wc))
          case first =>
           have H := HC28.out
           clear HC28
           by_cases c29 : x14_2 < 15
           ·
            rw [if_pos c29] at H
            have c29b0 : decide (x14_2 < 15) = true := decide_eq_true c29
            clear c29
            (first | rw [c29b0] | (simp only [i64_w, i32_w]; rw [c29b0]) | skip)
            have H' := Aside0.mk H
            clear H
            go_wp2
            go_meet
            case rel => exact ⟨_, (decide ((wrap64 ((Int.tmod (wrap64 ((Int.tmod a1 (y671.length : Int)) + (y671.length : Int))) (y671.length : Int)) + x14_2)) < (x11_2.length : Int))), (by first | rfl | (simp; done) | (simp [*]; done)), H', ⟨by have := HJ9.out; have := HK2.out; first | omega | exact Nat.le_refl _⟩, ⟨by (try simp only [hl11_2]); (with_reducible repeat (first | apply Kd.R_alloc | apply Kd.R_drewN | apply Kd.R_drew)); exact HO_11.out⟩, ⟨by (try simp only [hl11_2]); (with_reducible repeat (first | refine blk_drewN ?_ _ | refine blk_drew ?_ | refine blk_alloc ?_ _)); exact BK656.out⟩, ⟨by repeat (first | (with_reducible first | exact HB.out | apply below_alloc | apply pw_below_drewN | apply below_drew1 | refine below_set ?_ GE656.out) | exact HB.out)⟩⟩
           ·
            rw [if_neg c29] at H
            have c29b0 : decide (x14_2 < 15) = false := decide_eq_false c29
            clear c29
            (first | rw [c29b0] | (simp only [i64_w, i32_w]; rw [c29b0]) | skip)
            have H' := Aside0.mk H
            clear H
            go_wp2
            go_meet
            case rel => exact ⟨_, (false), (by first | rfl | (simp; done) | (simp [*]; done)), H', ⟨by have := HJ9.out; have := HK2.out; first | omega | exact Nat.le_refl _⟩, ⟨by (try simp only [hl11_2]); (with_reducible repeat (first | apply Kd.R_alloc | apply Kd.R_drewN | apply Kd.R_drew)); exact HO_11.out⟩, ⟨by (try simp only [hl11_2]); (with_reducible repeat (first | refine blk_drewN ?_ _ | refine blk_drew ?_ | refine blk_alloc ?_ _)); exact BK656.out⟩, ⟨by repeat (first | (with_reducible first | exact HB.out | apply below_alloc | apply pw_below_drewN | apply below_drew1 | refine below_set ?_ GE656.out) | exact HB.out)⟩⟩
          case rest =>
           clear HC28
           try clear c1
           try clear c2
           try clear p2
           try clear c4
           try clear c4b0
           try clear c4b1
           try clear p6
           try clear c14
           try clear c14b0
           try clear c14b1
           try clear c15
           try clear c16
           try clear c16b0
           try clear c16b1
           try clear c19
           try clear c20
           try clear c21
           try clear c21b0
           try clear c21b1
           try clear c21b2
           try clear c22
           try clear c24
           try clear c29
           try clear c29b0
           try clear p2
           try clear p6
           obtain ⟨kq, x69_27, rfl, HA, HJ27, HO_11, BK656, HB⟩ := hcut
           cases kq with
           | zero => exact absurd HA.out (by simp [magnetolaw02_Crc15Turns.j2])
           | succ kj27 =>
            have H := HA.out
            clear HA
            simp only [magnetolaw02_Crc15Turns.j2] at H
            by_cases c30 : x69_27 = true
            ·
             subst c30
             have H1 : (if 0 ≤ x14_2 then (if x14_2 < 15 then (if atB ([a2_0, a2_1, a2_2, a2_3, a2_4, a2_5, a2_6, a2_7, a2_8, a2_9, a2_10, a2_11, a2_12, a2_13, a2_14] : List Bool) x14_2 = true then (if 0 ≤ (wrap64 ((Int.tmod (wrap64 ((Int.tmod a1 (y671.length : Int)) + (y671.length : Int))) (y671.length : Int)) + x14_2)) then (if (wrap64 ((Int.tmod (wrap64 ((Int.tmod a1 (y671.length : Int)) + (y671.length : Int))) (y671.length : Int)) + x14_2)) < (x11_2.length : Int) then ((some (x11_2.set ((wrap64 ((Int.tmod (wrap64 ((Int.tmod a1 (y671.length : Int)) + (y671.length : Int))) (y671.length : Int)) + x14_2)) : Int).toNat (wrap64 (1 - (rd x11_2 (wrap64 ((Int.tmod (wrap64 ((Int.tmod a1 (y671.length : Int)) + (y671.length : Int))) (y671.length : Int)) + x14_2))))) : List Int)).bind fun y675 => (if x13_2 = true then (magnetolaw02_Crc15Turns.l0 kj27 l0 (Int.tmod (wrap64 ((Int.tmod a1 (y671.length : Int)) + (y671.length : Int))) (y671.length : Int)) t658 y675 true true (wrap64 (x14_2 + 1)) a2_0 a2_1 a2_2 a2_3 a2_4 a2_5 a2_6 a2_7 a2_8 a2_9 a2_10 a2_11 a2_12 a2_13 a2_14) else (magnetolaw02_Crc15Turns.l0 kj27 l0 (Int.tmod (wrap64 ((Int.tmod a1 (y671.length : Int)) + (y671.length : Int))) (y671.length : Int)) t658 y675 true (decide ((wrap64 ((Int.tmod (wrap64 ((Int.tmod a1 (y671.length : Int)) + (y671.length : Int))) (y671.length : Int)) + x14_2)) < (l0.length : Int))) (wrap64 (x14_2 + 1)) a2_0 a2_1 a2_2 a2_3 a2_4 a2_5 a2_6 a2_7 a2_8 a2_9 a2_10 a2_11 a2_12 a2_13 a2_14))) else (none)) else (none)) else (magnetolaw02_Crc15Turns.l0 kj27 l0 (Int.tmod (wrap64 ((Int.tmod a1 (y671.length : Int)) + (y671.length : Int))) (y671.length : Int)) t658 x11_2 x12_2 x13_2 (wrap64 (x14_2 + 1)) a2_0 a2_1 a2_2 a2_3 a2_4 a2_5 a2_6 a2_7 a2_8 a2_9 a2_10 a2_11 a2_12 a2_13 a2_14)) else (none)) else (none)) = some r := by rw [if_pos rfl] at H; exact H
             clear H
             have H := H1
             clear H1
             by_cases c31 : 0 ≤ x14_2
             ·
              rw [if_pos c31] at H
              have c31b0 : decide (0 ≤ x14_2) = true := decide_eq_true c31
              clear c31
              by_cases c32 : x14_2 < 15
              ·
               rw [if_pos c32] at H
               have c32b0 : decide (x14_2 < 15) = true := decide_eq_true c32
               clear c32
               by_cases c33 : atB ([a2_0, a2_1, a2_2, a2_3, a2_4, a2_5, a2_6, a2_7, a2_8, a2_9, a2_10, a2_11, a2_12, a2_13, a2_14] : List Bool) x14_2 = true
               ·
                rw [if_pos c33] at H
                have c33b0 : atB ([a2_0, a2_1, a2_2, a2_3, a2_4, a2_5, a2_6, a2_7, a2_8, a2_9, a2_10, a2_11, a2_12, a2_13, a2_14] : List Bool) x14_2 = true := c33
                clear c33
                obtain ⟨ji34, hji34⟩ : ∃ j_ : Int, (wrap64 ((Int.tmod (wrap64 ((Int.tmod a1 (y671.length : Int)) + (y671.length : Int))) (y671.length : Int)) + x14_2)) = j_ := ⟨_, rfl⟩
                replace H : (if 0 ≤ (ji34) then (if (ji34) < (x11_2.length : Int) then ((some (x11_2.set ((ji34) : Int).toNat (wrap64 (1 - (rd x11_2 (ji34)))) : List Int)).bind fun y675 => (if x13_2 = true then (magnetolaw02_Crc15Turns.l0 kj27 l0 (Int.tmod (wrap64 ((Int.tmod a1 (y671.length : Int)) + (y671.length : Int))) (y671.length : Int)) t658 y675 true true (wrap64 (x14_2 + 1)) a2_0 a2_1 a2_2 a2_3 a2_4 a2_5 a2_6 a2_7 a2_8 a2_9 a2_10 a2_11 a2_12 a2_13 a2_14) else (magnetolaw02_Crc15Turns.l0 kj27 l0 (Int.tmod (wrap64 ((Int.tmod a1 (y671.length : Int)) + (y671.length : Int))) (y671.length : Int)) t658 y675 true (decide ((ji34) < (l0.length : Int))) (wrap64 (x14_2 + 1)) a2_0 a2_1 a2_2 a2_3 a2_4 a2_5 a2_6 a2_7 a2_8 a2_9 a2_10 a2_11 a2_12 a2_13 a2_14))) else (none)) else (none)) = some r := by first | (rw [hji34] at H; exact H) | (simp only [hji34] at H ⊢; exact H)
                have hji34w : (IntKind.i64.wrap ((Int.tmod (wrap64 ((Int.tmod a1 (y671.length : Int)) + (y671.length : Int))) (y671.length : Int)) + x14_2)) = ji34 := (i64_w _).trans hji34
                have hji34v := hji34
                have hji34x := hji34w
                (try simp only [hl11_2] at hji34v hji34x)
                by_cases c35 : 0 ≤ (ji34)
                ·
                 rw [if_pos c35] at H
                 have c35b0 : decide (0 ≤ (ji34)) = true := decide_eq_true c35
                 clear c35
                 by_cases c36 : (ji34) < (x11_2.length : Int)
                 ·
                  rw [if_pos c36] at H
                  have c36b0 : decide ((ji34) < (x11_2.length : Int)) = true := decide_eq_true c36
                  clear c36
                  obtain ⟨y675, hy675⟩ : ∃ y_ : List Int, y_ = (x11_2.set ((ji34) : Int).toNat (wrap64 (1 - (rd x11_2 (ji34))))) := ⟨_, rfl⟩
                  replace H : (if x13_2 = true then (magnetolaw02_Crc15Turns.l0 kj27 l0 (Int.tmod (wrap64 ((Int.tmod a1 (y671.length : Int)) + (y671.length : Int))) (y671.length : Int)) t658 y675 true true (wrap64 (x14_2 + 1)) a2_0 a2_1 a2_2 a2_3 a2_4 a2_5 a2_6 a2_7 a2_8 a2_9 a2_10 a2_11 a2_12 a2_13 a2_14) else (magnetolaw02_Crc15Turns.l0 kj27 l0 (Int.tmod (wrap64 ((Int.tmod a1 (y671.length : Int)) + (y671.length : Int))) (y671.length : Int)) t658 y675 true (decide ((ji34) < (l0.length : Int))) (wrap64 (x14_2 + 1)) a2_0 a2_1 a2_2 a2_3 a2_4 a2_5 a2_6 a2_7 a2_8 a2_9 a2_10 a2_11 a2_12 a2_13 a2_14)) = some r := by first | (rw [hy675]; with_reducible exact H) | (have H2_ := (Option.bind_some _ _).symm.trans H; rw [hy675]; with_reducible exact H2_) | (have H2_ := (Option.bind_some _ _).symm.trans H; with_reducible exact H2_) | with_reducible exact H | (rw [hy675]; exact H) | exact H
                  have Ny675 := Aside0.mk hy675
                  clear hy675
                  by_cases c38 : x13_2 = true
                  ·
                   subst c38
                   have H1 : (magnetolaw02_Crc15Turns.l0 kj27 l0 (Int.tmod (wrap64 ((Int.tmod a1 (y671.length : Int)) + (y671.length : Int))) (y671.length : Int)) t658 y675 true true (wrap64 (x14_2 + 1)) a2_0 a2_1 a2_2 a2_3 a2_4 a2_5 a2_6 a2_7 a2_8 a2_9 a2_10 a2_11 a2_12 a2_13 a2_14) = some r := by rw [if_pos rfl] at H; exact H
                   clear H
                   have H := H1
                   clear H1
                   have H' := Aside0.mk H
                   clear H
                   have hcz39_0 : wc.cell? ⟨gb656, 0, none⟩ = some (.bool a2_0) := (blk_cell BK656.out 0).trans rfl
                   have hcz39_1 : wc.cell? ⟨gb656, 1, none⟩ = some (.bool a2_1) := (blk_cell BK656.out 1).trans rfl
                   have hcz39_2 : wc.cell? ⟨gb656, 2, none⟩ = some (.bool a2_2) := (blk_cell BK656.out 2).trans rfl
                   have hcz39_3 : wc.cell? ⟨gb656, 3, none⟩ = some (.bool a2_3) := (blk_cell BK656.out 3).trans rfl
                   have hcz39_4 : wc.cell? ⟨gb656, 4, none⟩ = some (.bool a2_4) := (blk_cell BK656.out 4).trans rfl
                   have hcz39_5 : wc.cell? ⟨gb656, 5, none⟩ = some (.bool a2_5) := (blk_cell BK656.out 5).trans rfl
                   have hcz39_6 : wc.cell? ⟨gb656, 6, none⟩ = some (.bool a2_6) := (blk_cell BK656.out 6).trans rfl
                   have hcz39_7 : wc.cell? ⟨gb656, 7, none⟩ = some (.bool a2_7) := (blk_cell BK656.out 7).trans rfl
                   have hcz39_8 : wc.cell? ⟨gb656, 8, none⟩ = some (.bool a2_8) := (blk_cell BK656.out 8).trans rfl
                   have hcz39_9 : wc.cell? ⟨gb656, 9, none⟩ = some (.bool a2_9) := (blk_cell BK656.out 9).trans rfl
                   have hcz39_10 : wc.cell? ⟨gb656, 10, none⟩ = some (.bool a2_10) := (blk_cell BK656.out 10).trans rfl
                   have hcz39_11 : wc.cell? ⟨gb656, 11, none⟩ = some (.bool a2_11) := (blk_cell BK656.out 11).trans rfl
                   have hcz39_12 : wc.cell? ⟨gb656, 12, none⟩ = some (.bool a2_12) := (blk_cell BK656.out 12).trans rfl
                   have hcz39_13 : wc.cell? ⟨gb656, 13, none⟩ = some (.bool a2_13) := (blk_cell BK656.out 13).trans rfl
                   have hcz39_14 : wc.cell? ⟨gb656, 14, none⟩ = some (.bool a2_14) := (blk_cell BK656.out 14).trans rfl
                   have hfz39_0 := blk_frozen BK656.out 0
                   have hfz39_1 := blk_frozen BK656.out 1
                   have hfz39_2 := blk_frozen BK656.out 2
                   have hfz39_3 := blk_frozen BK656.out 3
                   have hfz39_4 := blk_frozen BK656.out 4
                   have hfz39_5 := blk_frozen BK656.out 5
                   have hfz39_6 := blk_frozen BK656.out 6
                   have hfz39_7 := blk_frozen BK656.out 7
                   have hfz39_8 := blk_frozen BK656.out 8
                   have hfz39_9 := blk_frozen BK656.out 9
                   have hfz39_10 := blk_frozen BK656.out 10
                   have hfz39_11 := blk_frozen BK656.out 11
                   have hfz39_12 := blk_frozen BK656.out 12
                   have hfz39_13 := blk_frozen BK656.out 13
                   have hfz39_14 := blk_frozen BK656.out 14
                   have hcy40 : wc.cell? ⟨gb656, (x14_2 : Int).toNat, none⟩ = some (.bool (atB ([a2_0, a2_1, a2_2, a2_3, a2_4, a2_5, a2_6, a2_7, a2_8, a2_9, a2_10, a2_11, a2_12, a2_13, a2_14] : List Bool) x14_2)) := (by have h_ := arr_bool 0 ([a2_0, a2_1, a2_2, a2_3, a2_4, a2_5, a2_6, a2_7, a2_8, a2_9, a2_10, a2_11, a2_12, a2_13, a2_14] : List Bool) BK656.out rfl (x14_2 : Int) (of_decide_eq_true (by first | (with_reducible assumption) | assumption)) (of_decide_eq_true (by first | (with_reducible assumption) | assumption)); rwa [Nat.zero_add] at h_)
                   have hfy40 := blk_frozen BK656.out ((x14_2 : Int).toNat)
                   have hpy40 : (0 ≤ (x14_2 : Int)) = True := eq_true (of_decide_eq_true (by first | (with_reducible assumption) | assumption))
                   have hqy40 : ((x14_2 : Int) < 15) = True := eq_true (of_decide_eq_true (by first | (with_reducible assumption) | assumption))
                   have p674 : 0 ≤ ((ji34) : Int) := of_decide_eq_true (by first | (with_reducible assumption) | assumption)
                   have q674 : (ji34) < (x11_2.length : Int) := of_decide_eq_true (by first | (with_reducible assumption) | assumption)
                   obtain ⟨ad674, e674, hx674_0⟩ := Kd.at_int (Kd.R_reads' HO_11.out).2.2 (ji34) p674 q674
                   cases e674
                   replace p674 := eq_true p674
                   replace q674 := eq_true q674
                   have p37 : 0 ≤ ((ji34) : Int) := of_decide_eq_true (by first | (with_reducible assumption) | assumption)
                   have q37 : ((ji34) : Int) < ((x11_2.length : Int) : Int) := of_decide_eq_true (by first | (with_reducible assumption) | assumption)
                   obtain ⟨go37, co37, eo37, gb37, gl37, cl37, HG37⟩ := Kd.R_form HO_11.out (by omega)
                   (first | cases eo37 | (injection eo37 with ea_ en_ ec_; (first | subst ea_ | (injection ea_ with ea_; subst ea_)); subst ec_; clear en_))
                   have GB37 := Aside0.mk gb37
                   have GG37 := Aside0.mk HG37
                   clear gb37 gl37 HG37
                   (first | simp only [add_plain] at hx674_0 | skip)
                   obtain ⟨hx37_0, hf37_0⟩ := Kd.R_celln 0 HO_11.out ((ji34) : Int) p37 q37
                   replace p37 := eq_true p37
                   replace q37 := eq_true q37
                   have HP41 := Kd.R_putg HO_11.out ((ji34) : Int) (wrap64 (1 - (rd x11_2 (ji34))))
                   go_wp2_with (first | ((with_reducible refine gate_store (t := 3) (p := 86) rfl ?_); refine store_event (t := 3) (p := 86) (v := ?vo_w42) (w1 := (wc.setCell ⟨go37, ((ji34) : Int).toNat, none⟩ (.int .i64 (wrap64 (1 - (rd x11_2 (ji34))))))) ?hg ?ho ?hn ?hr ?_; (case ho => rfl); (case hg => rfl); (case hn => rfl); (case hr => first | (go_simp; done) | (go_simp; rfl)); intro w42 hw; have hg : wc.grownBy w42 (some go37) := (by rw [hw]; exact HP41.2); have hp_ : Kd.R (Kd.int .i64) 3 w42 w.heap.size (fun _ => True) (.slice (some ⟨go37, 0, none⟩) x11_2.length co27) y675 := (by rw [hw, Ny675.out]; exact HP41.1); clear HP41; have n0_ := Aside0.mk (hp_); have n1_ := Aside0.mk (blk_grown (g := gb656) (o := .cells #[.bool a2_0, .bool a2_1, .bool a2_2, .bool a2_3, .bool a2_4, .bool a2_5, .bool a2_6, .bool a2_7, .bool a2_8, .bool a2_9, .bool a2_10, .bool a2_11, .bool a2_12, .bool a2_13, .bool a2_14] 59 (0, 0)) (by (with_reducible repeat (first | refine blk_drewN ?_ _ | refine blk_drew ?_ | refine blk_alloc ?_ _)); exact BK656.out) hg (Kd.R_ne HO_11.out BK656.out (by decide))); have n2_ := Aside0.mk ((by rw [hw]; exact below_set (HB.out) GB37.out : Below w.heap.size w w42)); clear HO_11; clear BK656; clear HB; have HO_11 := n0_; have BK656 := n1_; have HB := n2_; clear n0_ n1_ n2_; clear hg hw hp_))
                   (try simp only [← hl11_2])
                   go_roundg kj27
                   case measure => have := HJ9.out; have := HK2.out; have := HJ27.out; omega
                   case rel => exact ⟨(y675), (true), (true), (wrap64 (x14_2 + 1)), (by first | rfl | (simp; done) | (simp [*]; done)), (by first | rfl | (simp; done) | (simp [*]; done)), (by first | rfl | (simp; done) | (simp [*]; done)), H', ⟨by have := HJ9.out; have := HK2.out; have := HJ27.out; omega⟩, ⟨by (try simp only [hl11_2]); (with_reducible repeat (first | apply Kd.R_alloc | apply Kd.R_drewN | apply Kd.R_drew)); exact HO_11.out⟩, ⟨by (try simp only [hl11_2]); (with_reducible repeat (first | refine blk_drewN ?_ _ | refine blk_drew ?_ | refine blk_alloc ?_ _)); exact BK656.out⟩, ⟨by repeat (first | (with_reducible first | exact HB.out | apply below_alloc | apply pw_below_drewN | apply below_drew1 | refine below_set ?_ GE656.out) | exact HB.out)⟩⟩
                  ·
                   replace c38 := Bool.eq_false_iff.mpr c38
                   subst c38
                   have H1 : (magnetolaw02_Crc15Turns.l0 kj27 l0 (Int.tmod (wrap64 ((Int.tmod a1 (y671.length : Int)) + (y671.length : Int))) (y671.length : Int)) t658 y675 true (decide ((ji34) < (l0.length : Int))) (wrap64 (x14_2 + 1)) a2_0 a2_1 a2_2 a2_3 a2_4 a2_5 a2_6 a2_7 a2_8 a2_9 a2_10 a2_11 a2_12 a2_13 a2_14) = some r := by rw [if_neg (show ¬ (false = true) by decide)] at H; exact H
                   clear H
                   have H := H1
                   clear H1
                   have H' := Aside0.mk H
                   clear H
                   have hcz43_0 : wc.cell? ⟨gb656, 0, none⟩ = some (.bool a2_0) := (blk_cell BK656.out 0).trans rfl
                   have hcz43_1 : wc.cell? ⟨gb656, 1, none⟩ = some (.bool a2_1) := (blk_cell BK656.out 1).trans rfl
                   have hcz43_2 : wc.cell? ⟨gb656, 2, none⟩ = some (.bool a2_2) := (blk_cell BK656.out 2).trans rfl
                   have hcz43_3 : wc.cell? ⟨gb656, 3, none⟩ = some (.bool a2_3) := (blk_cell BK656.out 3).trans rfl
                   have hcz43_4 : wc.cell? ⟨gb656, 4, none⟩ = some (.bool a2_4) := (blk_cell BK656.out 4).trans rfl
                   have hcz43_5 : wc.cell? ⟨gb656, 5, none⟩ = some (.bool a2_5) := (blk_cell BK656.out 5).trans rfl
                   have hcz43_6 : wc.cell? ⟨gb656, 6, none⟩ = some (.bool a2_6) := (blk_cell BK656.out 6).trans rfl
                   have hcz43_7 : wc.cell? ⟨gb656, 7, none⟩ = some (.bool a2_7) := (blk_cell BK656.out 7).trans rfl
                   have hcz43_8 : wc.cell? ⟨gb656, 8, none⟩ = some (.bool a2_8) := (blk_cell BK656.out 8).trans rfl
                   have hcz43_9 : wc.cell? ⟨gb656, 9, none⟩ = some (.bool a2_9) := (blk_cell BK656.out 9).trans rfl
                   have hcz43_10 : wc.cell? ⟨gb656, 10, none⟩ = some (.bool a2_10) := (blk_cell BK656.out 10).trans rfl
                   have hcz43_11 : wc.cell? ⟨gb656, 11, none⟩ = some (.bool a2_11) := (blk_cell BK656.out 11).trans rfl
                   have hcz43_12 : wc.cell? ⟨gb656, 12, none⟩ = some (.bool a2_12) := (blk_cell BK656.out 12).trans rfl
                   have hcz43_13 : wc.cell? ⟨gb656, 13, none⟩ = some (.bool a2_13) := (blk_cell BK656.out 13).trans rfl
                   have hcz43_14 : wc.cell? ⟨gb656, 14, none⟩ = some (.bool a2_14) := (blk_cell BK656.out 14).trans rfl
                   have hfz43_0 := blk_frozen BK656.out 0
                   have hfz43_1 := blk_frozen BK656.out 1
                   have hfz43_2 := blk_frozen BK656.out 2
                   have hfz43_3 := blk_frozen BK656.out 3
                   have hfz43_4 := blk_frozen BK656.out 4
                   have hfz43_5 := blk_frozen BK656.out 5
                   have hfz43_6 := blk_frozen BK656.out 6
                   have hfz43_7 := blk_frozen BK656.out 7
                   have hfz43_8 := blk_frozen BK656.out 8
                   have hfz43_9 := blk_frozen BK656.out 9
                   have hfz43_10 := blk_frozen BK656.out 10
                   have hfz43_11 := blk_frozen BK656.out 11
                   have hfz43_12 := blk_frozen BK656.out 12
                   have hfz43_13 := blk_frozen BK656.out 13
                   have hfz43_14 := blk_frozen BK656.out 14
                   have hcy44 : wc.cell? ⟨gb656, (x14_2 : Int).toNat, none⟩ = some (.bool (atB ([a2_0, a2_1, a2_2, a2_3, a2_4, a2_5, a2_6, a2_7, a2_8, a2_9, a2_10, a2_11, a2_12, a2_13, a2_14] : List Bool) x14_2)) := (by have h_ := arr_bool 0 ([a2_0, a2_1, a2_2, a2_3, a2_4, a2_5, a2_6, a2_7, a2_8, a2_9, a2_10, a2_11, a2_12, a2_13, a2_14] : List Bool) BK656.out rfl (x14_2 : Int) (of_decide_eq_true (by first | (with_reducible assumption) | assumption)) (of_decide_eq_true (by first | (with_reducible assumption) | assumption)); rwa [Nat.zero_add] at h_)
                   have hfy44 := blk_frozen BK656.out ((x14_2 : Int).toNat)
                   have hpy44 : (0 ≤ (x14_2 : Int)) = True := eq_true (of_decide_eq_true (by first | (with_reducible assumption) | assumption))
                   have hqy44 : ((x14_2 : Int) < 15) = True := eq_true (of_decide_eq_true (by first | (with_reducible assumption) | assumption))
                   have p674 : 0 ≤ ((ji34) : Int) := of_decide_eq_true (by first | (with_reducible assumption) | assumption)
                   have q674 : (ji34) < (x11_2.length : Int) := of_decide_eq_true (by first | (with_reducible assumption) | assumption)
                   obtain ⟨ad674, e674, hx674_0⟩ := Kd.at_int (Kd.R_reads' HO_11.out).2.2 (ji34) p674 q674
                   cases e674
                   replace p674 := eq_true p674
                   replace q674 := eq_true q674
                   have p37 : 0 ≤ ((ji34) : Int) := of_decide_eq_true (by first | (with_reducible assumption) | assumption)
                   have q37 : ((ji34) : Int) < ((x11_2.length : Int) : Int) := of_decide_eq_true (by first | (with_reducible assumption) | assumption)
                   obtain ⟨go37, co37, eo37, gb37, gl37, cl37, HG37⟩ := Kd.R_form HO_11.out (by omega)
                   (first | cases eo37 | (injection eo37 with ea_ en_ ec_; (first | subst ea_ | (injection ea_ with ea_; subst ea_)); subst ec_; clear en_))
                   have GB37 := Aside0.mk gb37
                   have GG37 := Aside0.mk HG37
                   clear gb37 gl37 HG37
                   (first | simp only [add_plain] at hx674_0 | skip)
                   obtain ⟨hx37_0, hf37_0⟩ := Kd.R_celln 0 HO_11.out ((ji34) : Int) p37 q37
                   replace p37 := eq_true p37
                   replace q37 := eq_true q37
                   have HP45 := Kd.R_putg HO_11.out ((ji34) : Int) (wrap64 (1 - (rd x11_2 (ji34))))
                   go_wp2_with (first | ((with_reducible refine gate_store (t := 3) (p := 86) rfl ?_); refine store_event (t := 3) (p := 86) (v := ?vo_w46) (w1 := (wc.setCell ⟨go37, ((ji34) : Int).toNat, none⟩ (.int .i64 (wrap64 (1 - (rd x11_2 (ji34))))))) ?hg ?ho ?hn ?hr ?_; (case ho => rfl); (case hg => rfl); (case hn => rfl); (case hr => first | (go_simp; done) | (go_simp; rfl)); intro w46 hw; have hg : wc.grownBy w46 (some go37) := (by rw [hw]; exact HP45.2); have hp_ : Kd.R (Kd.int .i64) 3 w46 w.heap.size (fun _ => True) (.slice (some ⟨go37, 0, none⟩) x11_2.length co27) y675 := (by rw [hw, Ny675.out]; exact HP45.1); clear HP45; have n0_ := Aside0.mk (hp_); have n1_ := Aside0.mk (blk_grown (g := gb656) (o := .cells #[.bool a2_0, .bool a2_1, .bool a2_2, .bool a2_3, .bool a2_4, .bool a2_5, .bool a2_6, .bool a2_7, .bool a2_8, .bool a2_9, .bool a2_10, .bool a2_11, .bool a2_12, .bool a2_13, .bool a2_14] 59 (0, 0)) (by (with_reducible repeat (first | refine blk_drewN ?_ _ | refine blk_drew ?_ | refine blk_alloc ?_ _)); exact BK656.out) hg (Kd.R_ne HO_11.out BK656.out (by decide))); have n2_ := Aside0.mk ((by rw [hw]; exact below_set (HB.out) GB37.out : Below w.heap.size w w46)); clear HO_11; clear BK656; clear HB; have HO_11 := n0_; have BK656 := n1_; have HB := n2_; clear n0_ n1_ n2_; clear hg hw hp_))
                   (try simp only [← hl11_2])
                   go_roundg kj27
                   case measure => have := HJ9.out; have := HK2.out; have := HJ27.out; omega
                   case rel => exact ⟨(y675), (true), (decide ((ji34) < (l0.length : Int))), (wrap64 (x14_2 + 1)), (by first | rfl | (simp; done) | (simp [*]; done)), (by first | rfl | (simp; done) | (simp only [← hji34] <;> (first | rfl | simp)) | (simp [*]; done)), (by first | rfl | (simp; done) | (simp [*]; done)), H', ⟨by have := HJ9.out; have := HK2.out; have := HJ27.out; omega⟩, ⟨by (try simp only [hl11_2]); (with_reducible repeat (first | apply Kd.R_alloc | apply Kd.R_drewN | apply Kd.R_drew)); exact HO_11.out⟩, ⟨by (try simp only [hl11_2]); (with_reducible repeat (first | refine blk_drewN ?_ _ | refine blk_drew ?_ | refine blk_alloc ?_ _)); exact BK656.out⟩, ⟨by repeat (first | (with_reducible first | exact HB.out | apply below_alloc | apply pw_below_drewN | apply below_drew1 | refine below_set ?_ GE656.out) | exact HB.out)⟩⟩
                 ·
                  rw [if_neg c36] at H
                  exact absurd H (by simp)
                ·
                 rw [if_neg c35] at H
                 exact absurd H (by simp)
               ·
                rw [if_neg c33] at H
                have c33b0 : atB ([a2_0, a2_1, a2_2, a2_3, a2_4, a2_5, a2_6, a2_7, a2_8, a2_9, a2_10, a2_11, a2_12, a2_13, a2_14] : List Bool) x14_2 = false := by simpa using c33
                clear c33
                have H' := Aside0.mk H
                clear H
                have hcz47_0 : wc.cell? ⟨gb656, 0, none⟩ = some (.bool a2_0) := (blk_cell BK656.out 0).trans rfl
                have hcz47_1 : wc.cell? ⟨gb656, 1, none⟩ = some (.bool a2_1) := (blk_cell BK656.out 1).trans rfl
                have hcz47_2 : wc.cell? ⟨gb656, 2, none⟩ = some (.bool a2_2) := (blk_cell BK656.out 2).trans rfl
                have hcz47_3 : wc.cell? ⟨gb656, 3, none⟩ = some (.bool a2_3) := (blk_cell BK656.out 3).trans rfl
                have hcz47_4 : wc.cell? ⟨gb656, 4, none⟩ = some (.bool a2_4) := (blk_cell BK656.out 4).trans rfl
                have hcz47_5 : wc.cell? ⟨gb656, 5, none⟩ = some (.bool a2_5) := (blk_cell BK656.out 5).trans rfl
                have hcz47_6 : wc.cell? ⟨gb656, 6, none⟩ = some (.bool a2_6) := (blk_cell BK656.out 6).trans rfl
                have hcz47_7 : wc.cell? ⟨gb656, 7, none⟩ = some (.bool a2_7) := (blk_cell BK656.out 7).trans rfl
                have hcz47_8 : wc.cell? ⟨gb656, 8, none⟩ = some (.bool a2_8) := (blk_cell BK656.out 8).trans rfl
                have hcz47_9 : wc.cell? ⟨gb656, 9, none⟩ = some (.bool a2_9) := (blk_cell BK656.out 9).trans rfl
                have hcz47_10 : wc.cell? ⟨gb656, 10, none⟩ = some (.bool a2_10) := (blk_cell BK656.out 10).trans rfl
                have hcz47_11 : wc.cell? ⟨gb656, 11, none⟩ = some (.bool a2_11) := (blk_cell BK656.out 11).trans rfl
                have hcz47_12 : wc.cell? ⟨gb656, 12, none⟩ = some (.bool a2_12) := (blk_cell BK656.out 12).trans rfl
                have hcz47_13 : wc.cell? ⟨gb656, 13, none⟩ = some (.bool a2_13) := (blk_cell BK656.out 13).trans rfl
                have hcz47_14 : wc.cell? ⟨gb656, 14, none⟩ = some (.bool a2_14) := (blk_cell BK656.out 14).trans rfl
                have hfz47_0 := blk_frozen BK656.out 0
                have hfz47_1 := blk_frozen BK656.out 1
                have hfz47_2 := blk_frozen BK656.out 2
                have hfz47_3 := blk_frozen BK656.out 3
                have hfz47_4 := blk_frozen BK656.out 4
                have hfz47_5 := blk_frozen BK656.out 5
                have hfz47_6 := blk_frozen BK656.out 6
                have hfz47_7 := blk_frozen BK656.out 7
                have hfz47_8 := blk_frozen BK656.out 8
                have hfz47_9 := blk_frozen BK656.out 9
                have hfz47_10 := blk_frozen BK656.out 10
                have hfz47_11 := blk_frozen BK656.out 11
                have hfz47_12 := blk_frozen BK656.out 12
                have hfz47_13 := blk_frozen BK656.out 13
                have hfz47_14 := blk_frozen BK656.out 14
                have hcy48 : wc.cell? ⟨gb656, (x14_2 : Int).toNat, none⟩ = some (.bool (atB ([a2_0, a2_1, a2_2, a2_3, a2_4, a2_5, a2_6, a2_7, a2_8, a2_9, a2_10, a2_11, a2_12, a2_13, a2_14] : List Bool) x14_2)) := (by have h_ := arr_bool 0 ([a2_0, a2_1, a2_2, a2_3, a2_4, a2_5, a2_6, a2_7, a2_8, a2_9, a2_10, a2_11, a2_12, a2_13, a2_14] : List Bool) BK656.out rfl (x14_2 : Int) (of_decide_eq_true (by first | (with_reducible assumption) | assumption)) (of_decide_eq_true (by first | (with_reducible assumption) | assumption)); rwa [Nat.zero_add] at h_)
                have hfy48 := blk_frozen BK656.out ((x14_2 : Int).toNat)
                have hpy48 : (0 ≤ (x14_2 : Int)) = True := eq_true (of_decide_eq_true (by first | (with_reducible assumption) | assumption))
                have hqy48 : ((x14_2 : Int) < 15) = True := eq_true (of_decide_eq_true (by first | (with_reducible assumption) | assumption))
                go_wp2
                (try simp only [← hl11_2])
                go_roundg kj27
                case measure => have := HJ9.out; have := HK2.out; have := HJ27.out; omega
                case rel => exact ⟨(x11_2), (x12_2), (x13_2), (wrap64 (x14_2 + 1)), (by first | rfl | (simp; done) | (simp [*]; done)), (by first | rfl | (simp; done) | (simp [*]; done)), (by first | rfl | (simp; done) | (simp [*]; done)), H', ⟨by have := HJ9.out; have := HK2.out; have := HJ27.out; omega⟩, ⟨by (try simp only [hl11_2]); (with_reducible repeat (first | apply Kd.R_alloc | apply Kd.R_drewN | apply Kd.R_drew)); exact HO_11.out⟩, ⟨by (try simp only [hl11_2]); (with_reducible repeat (first | refine blk_drewN ?_ _ | refine blk_drew ?_ | refine blk_alloc ?_ _)); exact BK656.out⟩, ⟨by repeat (first | (with_reducible first | exact HB.out | apply below_alloc | apply pw_below_drewN | apply below_drew1 | refine below_set ?_ GE656.out) | exact HB.out)⟩⟩
              ·
               rw [if_neg c32] at H
               exact absurd H (by simp)
             ·
              rw [if_neg c31] at H
              exact absurd H (by simp)
            ·
             replace c30 := Bool.eq_false_iff.mpr c30
             subst c30
             have H1 : ((crc15_Right.f kj27 x11_2).bind fun t676 => (if (t676 == x12_2) = true then (none) else (if (x11_2.length : Int) < (l0.length : Int) then (none) else (if 0 ≤ (l0.length : Int) then (if (l0.length : Int) ≤ (x11_2.length : Int) then ((crc15_Sum.f (x11_2.take ((l0.length : Int) : Int).toNat)).bind fun bt681 => (if bt681.2 = 0 then (if ((bt681.1 != t658) == x13_2) = true then ((magnetolaw02_awake.f).bind fun t683 => (some t683)) else (none)) else (none))) else (none)) else (none))))) = some r := by rw [if_neg (show ¬ (false = true) by decide)] at H; exact H
             clear H
             have H := H1
             clear H1
             replace H := Option.bind_eq_some_iff.mp H
             obtain ⟨t676, A490, H⟩ := H
             replace H : (if (t676 == x12_2) = true then (none) else (if (x11_2.length : Int) < (l0.length : Int) then (none) else (if 0 ≤ (l0.length : Int) then (if (l0.length : Int) ≤ (x11_2.length : Int) then ((crc15_Sum.f (x11_2.take ((l0.length : Int) : Int).toNat)).bind fun bt681 => (if bt681.2 = 0 then (if ((bt681.1 != t658) == x13_2) = true then ((magnetolaw02_awake.f).bind fun t683 => (some t683)) else (none)) else (none))) else (none)) else (none)))) = some r := H
             have A49 := Aside0.mk A490
             clear A490
             by_cases c50 : (t676 == x12_2) = true
             ·
              rw [if_pos c50] at H
              exact absurd H (by simp)
             ·
              rw [if_neg c50] at H
              have c50b0 : (t676 == x12_2) = false := by simpa using c50
              (try (have c50b1 : decide (t676 = x12_2) = false := by simpa using c50))
              (try (have c50b2 : (t676 == x12_2) = false := by simpa using c50))
              (try (have c50b3 : ¬ (t676 = x12_2) := by simpa using c50))
              clear c50
              by_cases c51 : (x11_2.length : Int) < (l0.length : Int)
              ·
               rw [if_pos c51] at H
               exact absurd H (by simp)
              ·
               rw [if_neg c51] at H
               have c51b0 : decide ((x11_2.length : Int) < (l0.length : Int)) = false := decide_eq_false c51
               have c51b1 : decide (x11_2.length < l0.length) = false := decide_eq_false (fun h => c51 (Int.ofNat_lt.mpr h))
               clear c51
               by_cases c52 : 0 ≤ (l0.length : Int)
               ·
                rw [if_pos c52] at H
                have c52b0 := eq_true c52
                have c52b1 : decide (0 ≤ (l0.length : Int)) = true := decide_eq_true c52
                clear c52
                by_cases c53 : (l0.length : Int) ≤ (x11_2.length : Int)
                ·
                 rw [if_pos c53] at H
                 have c53b0 := eq_true c53
                 have c53b1 : decide ((l0.length : Int) ≤ (x11_2.length : Int)) = true := decide_eq_true c53
                 clear c53
                 obtain ⟨y677, hy677⟩ : ∃ y_ : List Int, y_ = (x11_2.take ((l0.length : Int) : Int).toNat) := ⟨_, rfl⟩
                 replace H : ((crc15_Sum.f y677).bind fun bt681 => (if bt681.2 = 0 then (if ((bt681.1 != t658) == x13_2) = true then ((magnetolaw02_awake.f).bind fun t683 => (some t683)) else (none)) else (none))) = some r := by first | (rw [hy677]; with_reducible exact H) | (have H2_ := (Option.bind_some _ _).symm.trans H; rw [hy677]; with_reducible exact H2_) | (have H2_ := (Option.bind_some _ _).symm.trans H; with_reducible exact H2_) | with_reducible exact H | (rw [hy677]; exact H) | exact H
                 have Ny677 := Aside0.mk hy677
                 clear hy677
                 replace H := Option.bind_eq_some_iff.mp H
                 obtain ⟨⟨t681, t682⟩, A540, H⟩ := H
                 replace H : (if t682 = 0 then (if ((t681 != t658) == x13_2) = true then ((magnetolaw02_awake.f).bind fun t683 => (some t683)) else (none)) else (none)) = some r := H
                 have A54 := Aside0.mk A540
                 clear A540
                 by_cases c55 : t682 = 0
                 ·
                  rw [if_pos c55] at H
                  have c55b0 : (t682 == 0) = true := beq_iff_eq.mpr c55
                  have c55b1 : (t682 != 0) = false := bne_eq_false_iff_eq.mpr c55
                  clear c55
                  by_cases c56 : ((t681 != t658) == x13_2) = true
                  ·
                   rw [if_pos c56] at H
                   have c56b0 : ((t681 != t658) == x13_2) = true := c56
                   (try (have c56b1 : decide ((t681 != t658) = x13_2) = true := by simpa using c56))
                   (try (have c56b2 : ((t681 != t658) == x13_2) = true := by simpa using c56))
                   clear c56
                   replace H := Option.bind_eq_some_iff.mp H
                   obtain ⟨t683, A570, H⟩ := H
                   replace H : (some t683) = some r := H
                   have A57 := Aside0.mk A570
                   clear A570
                   obtain rfl := Option.some.inj H
                   go_wp2_with (first | ((with_reducible refine gate_callee (f := 47) rfl ?_); refine goesL_ (some 97) rfl rfl Try.func47 (by kernel_rfl) rfl #[.slice Ao27 x11_2.length co27] rfl (by (try simp only [List.map_toArray, List.map_cons, List.map_nil]); first | done | rfl | (simp only [List.length_drop, List.length_take]; rfl)) ?_; (with_reducible refine (crc15_Right.calls kj27 _ _ x11_2 t676 _ ?side1 ?side2 A49.out).mono ?_); (case side1 => repeat (first | exact (Kd.R_reads' HO_11.out).2.2 | (with_reducible refine Kd.C_alloc ?_ _) | (with_reducible refine Kd.C_drewN ?_ _) | (with_reducible refine Kd.C_drew ?_))); (case side2 => exact (Kd.R_reads' HO_11.out).2.1); rintro e w58 ⟨rfl, hb⟩; refine ⟨_, rfl, ?_⟩; have n0_ := Aside0.mk (Kd.R_below (by (with_reducible repeat (first | apply Kd.R_alloc | apply Kd.R_drewN | apply Kd.R_drew)); exact HO_11.out) hb); have n1_ := Aside0.mk (blk_below (g := gb656) (o := .cells #[.bool a2_0, .bool a2_1, .bool a2_2, .bool a2_3, .bool a2_4, .bool a2_5, .bool a2_6, .bool a2_7, .bool a2_8, .bool a2_9, .bool a2_10, .bool a2_11, .bool a2_12, .bool a2_13, .bool a2_14] 59 (0, 0)) (by (with_reducible repeat (first | refine blk_drewN ?_ _ | refine blk_drew ?_ | refine blk_alloc ?_ _)); exact BK656.out) hb); have n2_ := Aside0.mk (below_step (by repeat (first | (with_reducible first | exact HB.out | apply below_alloc | apply pw_below_drewN | apply below_drew1 | refine below_set ?_ GE656.out) | exact HB.out)) hb); clear HO_11; clear BK656; clear HB; have HO_11 := n0_; have BK656 := n1_; have HB := n2_; clear n0_ n1_ n2_; (try clear hb); (try clear hb2); (try clear hk); (try clear hi); have q59 : ((l0.length : Int) : Int) ≤ ((x11_2.length : Int) : Int) := of_decide_eq_true (by first | (with_reducible assumption) | assumption); obtain ⟨i059, hi059, _, hsz59, _⟩ := info_parts info3; have hroom59 : x11_2.length ≤ co27 := (Kd.R_reads' HO_11.out).2.1; have hC59 : Kd.C (Kd.int .i64) _ Ao27 x11_2.length x11_2 := (Kd.R_reads' HO_11.out).2.2; have hcut59 := cut_to (P := Try.prog) 22 3 .i64 Try.underlying22 hi059 Ao27 x11_2.length co27 (l0.length : Int) (of_decide_eq_true (by first | (with_reducible assumption) | assumption)) q59 hroom59; have hr59 := Kd.C_take (m := ((l0.length : Int) : Int).toNat) hC59 (by omega); have hy59 : y677.length = ((l0.length : Int) : Int).toNat := (by rw [Ny677.out, List.length_take]; omega); rw [← Ny677.out] at hr59; rw [← hy59] at hcut59; have HR680 := Aside0.mk hr59; have HC680 := Aside0.mk (show y677.length ≤ co27 from by omega); clear hr59 hC59 hroom59 hi059 hsz59; have KY59 := Aside0.mk hy59; clear hy59; have KL59 := Aside0.mk (show ((l0.length : Int) : Int).toNat ≤ x11_2.length from by omega); replace q59 := eq_true q59) | ((with_reducible refine gate_callee (f := 22) rfl ?_); refine goesL_ (some 110) rfl rfl Try.func22 (by kernel_rfl) rfl #[.slice Ao27 y677.length co27] rfl (by (try simp only [List.map_toArray, List.map_cons, List.map_nil]); first | done | rfl | (simp only [List.length_drop, List.length_take]; rfl)) ?_; (with_reducible refine (crc15_Sum.calls _ _ y677 t681 t682 _ ?side1 ?side2 A54.out).mono ?_); (case side1 => repeat (first | exact (by repeat (first | (with_reducible exact HR680.out) | (with_reducible refine Kd.C_alloc ?_ _) | (with_reducible refine Kd.C_drewN ?_ _) | (with_reducible refine Kd.C_drew ?_) | exact HR680.out)) | (with_reducible refine Kd.C_alloc ?_ _) | (with_reducible refine Kd.C_drewN ?_ _) | (with_reducible refine Kd.C_drew ?_))); (case side2 => exact HC680.out); rintro e w60 ⟨rfl, hb⟩; refine ⟨_, rfl, ?_⟩; have n0_ := Aside0.mk (Kd.R_below (by (with_reducible repeat (first | apply Kd.R_alloc | apply Kd.R_drewN | apply Kd.R_drew)); exact HO_11.out) hb); have n1_ := Aside0.mk (blk_below (g := gb656) (o := .cells #[.bool a2_0, .bool a2_1, .bool a2_2, .bool a2_3, .bool a2_4, .bool a2_5, .bool a2_6, .bool a2_7, .bool a2_8, .bool a2_9, .bool a2_10, .bool a2_11, .bool a2_12, .bool a2_13, .bool a2_14] 59 (0, 0)) (by (with_reducible repeat (first | refine blk_drewN ?_ _ | refine blk_drew ?_ | refine blk_alloc ?_ _)); exact BK656.out) hb); have n2_ := Aside0.mk (Kd.C_below (by repeat (first | (with_reducible exact HR680.out) | (with_reducible refine Kd.C_alloc ?_ _) | (with_reducible refine Kd.C_drewN ?_ _) | (with_reducible refine Kd.C_drew ?_) | exact HR680.out)) hb); have n3_ := Aside0.mk (below_step (by repeat (first | (with_reducible first | exact HB.out | apply below_alloc | apply pw_below_drewN | apply below_drew1 | refine below_set ?_ GE656.out) | exact HB.out)) hb); clear HO_11; clear BK656; clear HR680; clear HB; have HO_11 := n0_; have BK656 := n1_; have HR680 := n2_; have HB := n3_; clear n0_ n1_ n2_ n3_; (try clear hb); (try clear hb2); (try clear hk); (try clear hi)) | (go_at_call 21; (with_reducible refine (magnetolaw02_awake.calls  t683 _ A57.out).mono ?_); rintro e w61 ⟨rfl, hb⟩; have n0_ := Aside0.mk (Kd.R_below (by (with_reducible repeat (first | apply Kd.R_alloc | apply Kd.R_drewN | apply Kd.R_drew)); exact HO_11.out) hb); have n1_ := Aside0.mk (blk_below (g := gb656) (o := .cells #[.bool a2_0, .bool a2_1, .bool a2_2, .bool a2_3, .bool a2_4, .bool a2_5, .bool a2_6, .bool a2_7, .bool a2_8, .bool a2_9, .bool a2_10, .bool a2_11, .bool a2_12, .bool a2_13, .bool a2_14] 59 (0, 0)) (by (with_reducible repeat (first | refine blk_drewN ?_ _ | refine blk_drew ?_ | refine blk_alloc ?_ _)); exact BK656.out) hb); have n2_ := Aside0.mk (Kd.C_below (by repeat (first | (with_reducible exact HR680.out) | (with_reducible refine Kd.C_alloc ?_ _) | (with_reducible refine Kd.C_drewN ?_ _) | (with_reducible refine Kd.C_drew ?_) | exact HR680.out)) hb); have n3_ := Aside0.mk (below_step (by repeat (first | (with_reducible first | exact HB.out | apply below_alloc | apply pw_below_drewN | apply below_drew1 | refine below_set ?_ GE656.out) | exact HB.out)) hb); clear HO_11; clear BK656; clear HR680; clear HB; have HO_11 := n0_; have BK656 := n1_; have HR680 := n2_; have HB := n3_; clear n0_ n1_ n2_ n3_; (try clear hb); (try clear hb2); (try clear hk); (try clear hi)))
                   go_ret
                   exact ⟨by first | rfl | (simp [errW_none, errW_some] <;> rfl) | (simp [*, errW_none, errW_some] <;> rfl), by repeat (first | (with_reducible first | exact HB.out | apply below_alloc | apply pw_below_drewN | apply below_drew1 | refine below_set ?_ GE656.out) | exact HB.out)⟩
                  ·
                   rw [if_neg c56] at H
                   exact absurd H (by simp)
                 ·
                  rw [if_neg c55] at H
                  exact absurd H (by simp)
                ·
                 rw [if_neg c53] at H
                 exact absurd H (by simp)
               ·
                rw [if_neg c52] at H
                exact absurd H (by simp)
      ·
       rw [if_neg c20] at H
       exact absurd H (by simp)
     ·
      rw [if_neg c19] at H
      exact absurd H (by simp)

end Go.Proofs.Ytipflkbpjnacnaa.PA
