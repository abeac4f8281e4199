/- Functions of the program, in plain Lean, and their walks (printed; half the indent). Conditions: none. -/
-- PRINTED by print.py (a twelfth state) out of the translation. Not trusted: Lean checks it.
import Derived.Test.YtakemodmdhglnaaPAx0
import Derived.Test.YtakemodmdhglnaaPAx1
import Derived.Test.YtakemodmdhglnaaPAx14
import Derived.Test.YtakemodmdhglnaaPAx19
import Derived.Test.YtakemodmdhglnaaPAx20
import Derived.Test.YtakemodmdhglnaaPAx21
import Derived.Test.YtakemodmdhglnaaPAx22
import Derived.Test.YtakemodmdhglnaaPAx23
import Derived.Test.YtakemodmdhglnaaPAx27
import Derived.Test.YtakemodmdhglnaaPAx28
namespace Go.Proofs.Ytakemodmdhglnaa.PA
open Go.RowKit Go.Proofs.YtakemodmdhglnaaW.PrintWords Go.Proofs.YtakemodmdhglnaaW.PrintLast Go.Proofs.YtakemodmdhglnaaW.PrintMore
attribute [local go_sem] max2_int min2_int max_two min_two max_three min_three max_four min_four   -- for this text's walks alone
set_option linter.unusedVariables false
set_option linter.unusedSimpArgs false

attribute [local go_sem high] eqA24
/-! ### magnetolaw04_FieldFrames: function 7 -/
mutual
def magnetolaw04_FieldFrames.j0 : Nat → List Int → Bool → Int → Bool → Option (Bool)
 | 0, _, _, _, _ => none
 | k + 1, x0, x5, x6, x57 => if x57 = true then (none) else ((magnetoref04_Ahead.f k x0).bind fun t593 => (if t593 < 0 then (magnetolaw04_FieldFrames.j1 k x0 x5 x6 t593 true) else (magnetolaw04_FieldFrames.j1 k x0 x5 x6 t593 (decide ((x0.length : Int) < (wrap64 (t593 + 15)))))))
def magnetolaw04_FieldFrames.j1 : Nat → List Int → Bool → Int → Int → Bool → Option (Bool)
 | 0, _, _, _, _, _ => none
 | k + 1, x0, x5, x6, x9, x68 => if x68 = true then (if x5 = true then (none) else (if x6 = 13 then ((magnetolaw04_awake.f k).bind fun t594 => (some t594)) else (none))) else (if 0 ≤ x9 then (if x9 ≤ (x0.length : Int) then ((magnetoref04_Sum.f k (x0.take (x9 : Int).toNat)).bind fun t596 => (if x9 ≤ (wrap64 (x9 + 15)) then (if (wrap64 (x9 + 15)) ≤ (x0.length : Int) then ((magnetolaw04_ints.f k t596 ((x0.take ((wrap64 (x9 + 15)) : Int).toNat).drop (x9 : Int).toNat)).bind fun t600 => (if (x5 == t600) = true then (if x6 = 0 then ((magnetolaw04_awake.f k).bind fun t601 => (some t601)) else (none)) else (none))) else (none)) else (none))) else (none)) else (none))
end
def magnetolaw04_FieldFrames.f (k : Nat) (l0 : List Int) : Option (Bool) := if (l0.length : Int) > 200 then ((magnetolaw04_awake.f k).bind fun t560 => (some t560)) else ((field_Frame.f k l0).bind fun bt561 => ((field_Right.f k l0).bind fun bt575 => ((magnetolaw04_levels.f k l0).bind fun t577 => (if t577 = true then ((magnetoref04_Frame.f k l0).bind fun bt579 => (if (!(bt561.1 == bt579.1) || (!(bt561.2.1 == bt579.2.1) || (!(bt561.2.2.1 == bt579.2.2.1) || (!(bt561.2.2.2.1 == bt579.2.2.2.1) || ((!(bt561.2.2.2.2.1 == bt579.2.2.2.2.1) || (!(bt561.2.2.2.2.2.1 == bt579.2.2.2.2.2.1) || (!(bt561.2.2.2.2.2.2.1 == bt579.2.2.2.2.2.2.1) || (!(bt561.2.2.2.2.2.2.2.1 == bt579.2.2.2.2.2.2.2.1) || (!(bt561.2.2.2.2.2.2.2.2.1 == bt579.2.2.2.2.2.2.2.2.1) || (!(bt561.2.2.2.2.2.2.2.2.2.1 == bt579.2.2.2.2.2.2.2.2.2.1) || (!(bt561.2.2.2.2.2.2.2.2.2.2.1 == bt579.2.2.2.2.2.2.2.2.2.2.1) || (!(bt561.2.2.2.2.2.2.2.2.2.2.2.1 == bt579.2.2.2.2.2.2.2.2.2.2.2.1)))))))))))))) = true then (none) else (magnetolaw04_FieldFrames.j0 k l0 bt575.1 bt575.2 (bt561.2.2.2.2.2.2.2.2.2.2.2.2 != bt579.2.2.2.2.2.2.2.2.2.2.2.2)))) else (if (bt561.1 == 0 && (!bt561.2.1 && (!bt561.2.2.1 && (bt561.2.2.2.1 == 0 && ((bt561.2.2.2.2.1 == 0 && (bt561.2.2.2.2.2.1 == 0 && (bt561.2.2.2.2.2.2.1 == 0 && (bt561.2.2.2.2.2.2.2.1 == 0 && (bt561.2.2.2.2.2.2.2.2.1 == 0 && (bt561.2.2.2.2.2.2.2.2.2.1 == 0 && (bt561.2.2.2.2.2.2.2.2.2.2.1 == 0 && (bt561.2.2.2.2.2.2.2.2.2.2.2.1 == 0))))))))))))) = true then (if bt561.2.2.2.2.2.2.2.2.2.2.2.2 = 10 then (if bt575.1 = true then (none) else (if bt575.2 = 10 then ((magnetolaw04_awake.f k).bind fun t578 => (some t578)) else (none))) else (none)) else (none))))))
theorem magnetolaw04_FieldFrames.mono_l : ∀ k, (∀ y0 y1 y2 y3, LeO (magnetolaw04_FieldFrames.j0 k y0 y1 y2 y3) (magnetolaw04_FieldFrames.j0 (k + 1) y0 y1 y2 y3)) ∧ (∀ y0 y1 y2 y3 y4, LeO (magnetolaw04_FieldFrames.j1 k y0 y1 y2 y3 y4) (magnetolaw04_FieldFrames.j1 (k + 1) y0 y1 y2 y3 y4))
 | 0 => ⟨fun _ _ _ _ r h => by simp [magnetolaw04_FieldFrames.j0] at h, fun _ _ _ _ _ r h => by simp [magnetolaw04_FieldFrames.j1] at h⟩
 | k + 1 => by
  obtain ⟨ih0, ih1⟩ := magnetolaw04_FieldFrames.mono_l k
  refine ⟨?_, ?_⟩
  ·
   intro y0 y1 y2 y3
   unfold magnetolaw04_FieldFrames.j0
   repeat' first
   | (with_reducible exact ih0 _ _ _ _)
   | (with_reducible exact ih1 _ _ _ _ _)
   | (with_reducible exact field_Frame.mono _ _)
   | (with_reducible exact field_Right.mono _ _)
   | (with_reducible exact magnetolaw04_awake.mono _)
   | (with_reducible exact magnetolaw04_ints.mono _ _ _)
   | (with_reducible exact magnetolaw04_levels.mono _ _)
   | (with_reducible exact magnetoref04_Ahead.mono _ _)
   | (with_reducible exact magnetoref04_Frame.mono _ _)
   | (with_reducible exact magnetoref04_Sum.mono _ _)
   | (with_reducible exact LeO.refl _)
   | (with_reducible exact LeO.none _)
   | (with_reducible refine LeO.ite ?_ ?_)
   | (with_reducible refine LeO.bind ?_ (fun _ => ?_))
   | exact ih0 _ _ _ _
   | exact ih1 _ _ _ _ _
   | exact field_Frame.mono _ _
   | exact field_Right.mono _ _
   | exact magnetolaw04_awake.mono _
   | exact magnetolaw04_ints.mono _ _ _
   | exact magnetolaw04_levels.mono _ _
   | exact magnetoref04_Ahead.mono _ _
   | exact magnetoref04_Frame.mono _ _
   | exact magnetoref04_Sum.mono _ _
   | exact LeO.none _
   | refine LeO.ite ?_ ?_
   | refine LeO.bind ?_ (fun _ => ?_)
  ·
   intro y0 y1 y2 y3 y4
   unfold magnetolaw04_FieldFrames.j1
   repeat' first
   | (with_reducible exact ih0 _ _ _ _)
   | (with_reducible exact ih1 _ _ _ _ _)
   | (with_reducible exact field_Frame.mono _ _)
   | (with_reducible exact field_Right.mono _ _)
   | (with_reducible exact magnetolaw04_awake.mono _)
   | (with_reducible exact magnetolaw04_ints.mono _ _ _)
   | (with_reducible exact magnetolaw04_levels.mono _ _)
   | (with_reducible exact magnetoref04_Ahead.mono _ _)
   | (with_reducible exact magnetoref04_Frame.mono _ _)
   | (with_reducible exact magnetoref04_Sum.mono _ _)
   | (with_reducible exact LeO.refl _)
   | (with_reducible exact LeO.none _)
   | (with_reducible refine LeO.ite ?_ ?_)
   | (with_reducible refine LeO.bind ?_ (fun _ => ?_))
   | exact ih0 _ _ _ _
   | exact ih1 _ _ _ _ _
   | exact field_Frame.mono _ _
   | exact field_Right.mono _ _
   | exact magnetolaw04_awake.mono _
   | exact magnetolaw04_ints.mono _ _ _
   | exact magnetolaw04_levels.mono _ _
   | exact magnetoref04_Ahead.mono _ _
   | exact magnetoref04_Frame.mono _ _
   | exact magnetoref04_Sum.mono _ _
   | exact LeO.none _
   | refine LeO.ite ?_ ?_
   | refine LeO.bind ?_ (fun _ => ?_)
theorem magnetolaw04_FieldFrames.mono : ∀ a0 k, LeO (magnetolaw04_FieldFrames.f k a0) (magnetolaw04_FieldFrames.f (k + 1) a0) := by
 intro a0 k
 obtain ⟨ih0, ih1⟩ := magnetolaw04_FieldFrames.mono_l k
 unfold magnetolaw04_FieldFrames.f
 repeat' first
   | (with_reducible exact ih0 _ _ _ _)
   | (with_reducible exact ih1 _ _ _ _ _)
   | (with_reducible exact field_Frame.mono _ _)
   | (with_reducible exact field_Right.mono _ _)
   | (with_reducible exact magnetolaw04_awake.mono _)
   | (with_reducible exact magnetolaw04_ints.mono _ _ _)
   | (with_reducible exact magnetolaw04_levels.mono _ _)
   | (with_reducible exact magnetoref04_Ahead.mono _ _)
   | (with_reducible exact magnetoref04_Frame.mono _ _)
   | (with_reducible exact magnetoref04_Sum.mono _ _)
   | (with_reducible exact LeO.refl _)
   | (with_reducible exact LeO.none _)
   | (with_reducible refine LeO.ite ?_ ?_)
   | (with_reducible refine LeO.bind ?_ (fun _ => ?_))
   | exact ih0 _ _ _ _
   | exact ih1 _ _ _ _ _
   | exact field_Frame.mono _ _
   | exact field_Right.mono _ _
   | exact magnetolaw04_awake.mono _
   | exact magnetolaw04_ints.mono _ _ _
   | exact magnetolaw04_levels.mono _ _
   | exact magnetoref04_Ahead.mono _ _
   | exact magnetoref04_Frame.mono _ _
   | exact magnetoref04_Sum.mono _ _
   | exact LeO.none _
   | refine LeO.ite ?_ ?_
   | refine LeO.bind ?_ (fun _ => ?_)
def magnetolaw04_FieldFrames.T13 : Bool × List (List Nat × List Nat) := (true, [([], []), ([], []), ([], []), ([1, 2], [1, 2]), ([3], [3]), ([], []), ([], []), ([], []), ([7], [7]), ([5, 6, 8], [5, 6, 8]), ([4, 9, 4], [4, 9]), ([0, 10], [0, 10]), ([11, 10], [11]), ([12], [12]), ([13, 12], [12, 13]), ([12, 14], [12, 14]), ([15, 12], [15]), ([16, 16], [16]), ([16, 17], [16, 17]), ([18, 17, 0, 1, 2, 3, 4, 5, 6, 7, 8, 9, 10, 11, 12, 13, 14, 15, 16, 17, 18], [18])])
def magnetolaw04_FieldFrames.B13 : List Nat := [0, 0, 0, 6, 14, 0, 0, 0, 128, 480, 1022, 2047, 4095, 8191, 16383, 32767, 65535, 131071, 262143, 524287]
theorem magnetolaw04_FieldFrames.tab13 : rtab .any (opsOf Try.f7 13) = magnetolaw04_FieldFrames.T13 := by kernel_rfl
theorem magnetolaw04_FieldFrames.bits13 : waitsOk magnetolaw04_FieldFrames.T13.2 magnetolaw04_FieldFrames.B13 = true := by kernel_rfl
set_option maxHeartbeats 8000000 in
set_option maxRecDepth 100000 in
theorem magnetolaw04_FieldFrames.calls (k : Nat) (A0 : Option Addr) (c0 : Nat) (l0 : List Int) (r : Bool) (w : World) (hr0 : Kd.C (Kd.int .i64) w A0 l0.length l0) (hc0 : l0.length ≤ c0) (h : magnetolaw04_FieldFrames.f k l0 = some r) :
  Calls Try.prog 7 #[.slice A0 l0.length c0] w fun e w' => e = .returned (.bool r) ∧ Below w.heap.size w w' := by
 have hu24 := Try.underlying24
 have HR0 := Aside0.mk hr0
 have HC0 := Aside0.mk hc0
 clear hr0 hc0
 have HB := Aside0.mk (Below.refl w.heap.size w)
 have H : (if (l0.length : Int) > 200 then ((magnetolaw04_awake.f k).bind fun t560 => (some t560)) else ((field_Frame.f k l0).bind fun bt561 => ((field_Right.f k l0).bind fun bt575 => ((magnetolaw04_levels.f k l0).bind fun t577 => (if t577 = true then ((magnetoref04_Frame.f k l0).bind fun bt579 => (if (!(bt561.1 == bt579.1) || (!(bt561.2.1 == bt579.2.1) || (!(bt561.2.2.1 == bt579.2.2.1) || (!(bt561.2.2.2.1 == bt579.2.2.2.1) || ((!(bt561.2.2.2.2.1 == bt579.2.2.2.2.1) || (!(bt561.2.2.2.2.2.1 == bt579.2.2.2.2.2.1) || (!(bt561.2.2.2.2.2.2.1 == bt579.2.2.2.2.2.2.1) || (!(bt561.2.2.2.2.2.2.2.1 == bt579.2.2.2.2.2.2.2.1) || (!(bt561.2.2.2.2.2.2.2.2.1 == bt579.2.2.2.2.2.2.2.2.1) || (!(bt561.2.2.2.2.2.2.2.2.2.1 == bt579.2.2.2.2.2.2.2.2.2.1) || (!(bt561.2.2.2.2.2.2.2.2.2.2.1 == bt579.2.2.2.2.2.2.2.2.2.2.1) || (!(bt561.2.2.2.2.2.2.2.2.2.2.2.1 == bt579.2.2.2.2.2.2.2.2.2.2.2.1)))))))))))))) = true then (none) else (magnetolaw04_FieldFrames.j0 k l0 bt575.1 bt575.2 (bt561.2.2.2.2.2.2.2.2.2.2.2.2 != bt579.2.2.2.2.2.2.2.2.2.2.2.2)))) else (if (bt561.1 == 0 && (!bt561.2.1 && (!bt561.2.2.1 && (bt561.2.2.2.1 == 0 && ((bt561.2.2.2.2.1 == 0 && (bt561.2.2.2.2.2.1 == 0 && (bt561.2.2.2.2.2.2.1 == 0 && (bt561.2.2.2.2.2.2.2.1 == 0 && (bt561.2.2.2.2.2.2.2.2.1 == 0 && (bt561.2.2.2.2.2.2.2.2.2.1 == 0 && (bt561.2.2.2.2.2.2.2.2.2.2.1 == 0 && (bt561.2.2.2.2.2.2.2.2.2.2.2.1 == 0))))))))))))) = true then (if bt561.2.2.2.2.2.2.2.2.2.2.2.2 = 10 then (if bt575.1 = true then (none) else (if bt575.2 = 10 then ((magnetolaw04_awake.f k).bind fun t578 => (some t578)) else (none))) else (none)) else (none))))))) = some r := h
 clear h
 by_cases c2 : (l0.length : Int) > 200
 ·
  rw [if_pos c2] at H
  have c2b0 : decide (200 < (l0.length : Int)) = true := decide_eq_true c2
  have c2b1 : decide (200 < l0.length) = true := decide_eq_true (by omega)
  clear c2
  replace H := Option.bind_eq_some_iff.mp H
  obtain ⟨t560, A30, H⟩ := H
  replace H : (some t560) = some r := H
  have A3 := Aside0.mk A30
  clear A30
  obtain rfl := Option.some.inj H
  go_enter Try.func7, Try.ntmps7
  go_wp2_with (first | ((with_reducible refine gate_callee (f := 19) rfl ?_); refine goesL_ (some 13) rfl rfl Try.func19 (by kernel_rfl) rfl #[] rfl (by (try simp only [List.map_toArray, List.map_cons, List.map_nil]); first | done | rfl | (simp only [List.length_drop, List.length_take]; rfl)) ?_; (with_reducible refine (magnetolaw04_awake.calls k  t560 _ A3.out).mono ?_); rintro e w4 ⟨rfl, hb⟩; refine ⟨_, rfl, ?_⟩; have n0_ := Aside0.mk (below_step (by repeat (first | (with_reducible first | exact HB.out | apply below_alloc | apply pw_below_drewN | apply below_drew1) | exact HB.out)) hb); clear HB; have HB := n0_; clear n0_; (try clear hb); (try clear hb2); (try clear hk); (try clear hi)))
  go_ret
  exact ⟨by first | rfl | (simp [errW_none, errW_some] <;> rfl) | (simp [*, errW_none, errW_some] <;> rfl), by repeat (first | (with_reducible first | exact HB.out | apply below_alloc | apply pw_below_drewN | apply below_drew1) | exact HB.out)⟩
 ·
  rw [if_neg c2] at H
  have c2b0 : decide (200 < (l0.length : Int)) = false := decide_eq_false c2
  have c2b1 : decide (200 < l0.length) = false := decide_eq_false (by omega)
  clear c2
  replace H := Option.bind_eq_some_iff.mp H
  obtain ⟨⟨t561, t562, t563, t564, t565, t566, t567, t568, t569, t570, t571, t572, t573⟩, A50, H⟩ := H
  replace H : ((field_Right.f k l0).bind fun bt575 => ((magnetolaw04_levels.f k l0).bind fun t577 => (if t577 = true then ((magnetoref04_Frame.f k l0).bind fun bt579 => (if (!(t561 == bt579.1) || (!(t562 == bt579.2.1) || (!(t563 == bt579.2.2.1) || (!(t564 == bt579.2.2.2.1) || ((!(t565 == bt579.2.2.2.2.1) || (!(t566 == bt579.2.2.2.2.2.1) || (!(t567 == bt579.2.2.2.2.2.2.1) || (!(t568 == bt579.2.2.2.2.2.2.2.1) || (!(t569 == bt579.2.2.2.2.2.2.2.2.1) || (!(t570 == bt579.2.2.2.2.2.2.2.2.2.1) || (!(t571 == bt579.2.2.2.2.2.2.2.2.2.2.1) || (!(t572 == bt579.2.2.2.2.2.2.2.2.2.2.2.1)))))))))))))) = true then (none) else (magnetolaw04_FieldFrames.j0 k l0 bt575.1 bt575.2 (t573 != bt579.2.2.2.2.2.2.2.2.2.2.2.2)))) else (if (t561 == 0 && (!t562 && (!t563 && (t564 == 0 && ((t565 == 0 && (t566 == 0 && (t567 == 0 && (t568 == 0 && (t569 == 0 && (t570 == 0 && (t571 == 0 && (t572 == 0))))))))))))) = true then (if t573 = 10 then (if bt575.1 = true then (none) else (if bt575.2 = 10 then ((magnetolaw04_awake.f k).bind fun t578 => (some t578)) else (none))) else (none)) else (none))))) = some r := H
  have A5 := Aside0.mk A50
  clear A50
  replace H := Option.bind_eq_some_iff.mp H
  obtain ⟨⟨t575, t576⟩, A60, H⟩ := H
  replace H : ((magnetolaw04_levels.f k l0).bind fun t577 => (if t577 = true then ((magnetoref04_Frame.f k l0).bind fun bt579 => (if (!(t561 == bt579.1) || (!(t562 == bt579.2.1) || (!(t563 == bt579.2.2.1) || (!(t564 == bt579.2.2.2.1) || ((!(t565 == bt579.2.2.2.2.1) || (!(t566 == bt579.2.2.2.2.2.1) || (!(t567 == bt579.2.2.2.2.2.2.1) || (!(t568 == bt579.2.2.2.2.2.2.2.1) || (!(t569 == bt579.2.2.2.2.2.2.2.2.1) || (!(t570 == bt579.2.2.2.2.2.2.2.2.2.1) || (!(t571 == bt579.2.2.2.2.2.2.2.2.2.2.1) || (!(t572 == bt579.2.2.2.2.2.2.2.2.2.2.2.1)))))))))))))) = true then (none) else (magnetolaw04_FieldFrames.j0 k l0 t575 t576 (t573 != bt579.2.2.2.2.2.2.2.2.2.2.2.2)))) else (if (t561 == 0 && (!t562 && (!t563 && (t564 == 0 && ((t565 == 0 && (t566 == 0 && (t567 == 0 && (t568 == 0 && (t569 == 0 && (t570 == 0 && (t571 == 0 && (t572 == 0))))))))))))) = true then (if t573 = 10 then (if t575 = true then (none) else (if t576 = 10 then ((magnetolaw04_awake.f k).bind fun t578 => (some t578)) else (none))) else (none)) else (none)))) = some r := H
  have A6 := Aside0.mk A60
  clear A60
  replace H := Option.bind_eq_some_iff.mp H
  obtain ⟨t577, A70, H⟩ := H
  replace H : (if t577 = true then ((magnetoref04_Frame.f k l0).bind fun bt579 => (if (!(t561 == bt579.1) || (!(t562 == bt579.2.1) || (!(t563 == bt579.2.2.1) || (!(t564 == bt579.2.2.2.1) || ((!(t565 == bt579.2.2.2.2.1) || (!(t566 == bt579.2.2.2.2.2.1) || (!(t567 == bt579.2.2.2.2.2.2.1) || (!(t568 == bt579.2.2.2.2.2.2.2.1) || (!(t569 == bt579.2.2.2.2.2.2.2.2.1) || (!(t570 == bt579.2.2.2.2.2.2.2.2.2.1) || (!(t571 == bt579.2.2.2.2.2.2.2.2.2.2.1) || (!(t572 == bt579.2.2.2.2.2.2.2.2.2.2.2.1)))))))))))))) = true then (none) else (magnetolaw04_FieldFrames.j0 k l0 t575 t576 (t573 != bt579.2.2.2.2.2.2.2.2.2.2.2.2)))) else (if (t561 == 0 && (!t562 && (!t563 && (t564 == 0 && ((t565 == 0 && (t566 == 0 && (t567 == 0 && (t568 == 0 && (t569 == 0 && (t570 == 0 && (t571 == 0 && (t572 == 0))))))))))))) = true then (if t573 = 10 then (if t575 = true then (none) else (if t576 = 10 then ((magnetolaw04_awake.f k).bind fun t578 => (some t578)) else (none))) else (none)) else (none))) = some r := H
  have A7 := Aside0.mk A70
  clear A70
  by_cases c8 : t577 = true
  ·
   subst c8
   have H1 : ((magnetoref04_Frame.f k l0).bind fun bt579 => (if (!(t561 == bt579.1) || (!(t562 == bt579.2.1) || (!(t563 == bt579.2.2.1) || (!(t564 == bt579.2.2.2.1) || ((!(t565 == bt579.2.2.2.2.1) || (!(t566 == bt579.2.2.2.2.2.1) || (!(t567 == bt579.2.2.2.2.2.2.1) || (!(t568 == bt579.2.2.2.2.2.2.2.1) || (!(t569 == bt579.2.2.2.2.2.2.2.2.1) || (!(t570 == bt579.2.2.2.2.2.2.2.2.2.1) || (!(t571 == bt579.2.2.2.2.2.2.2.2.2.2.1) || (!(t572 == bt579.2.2.2.2.2.2.2.2.2.2.2.1)))))))))))))) = true then (none) else (magnetolaw04_FieldFrames.j0 k l0 t575 t576 (t573 != bt579.2.2.2.2.2.2.2.2.2.2.2.2)))) = some r := by rw [if_pos rfl] at H; exact H
   clear H
   have H := H1
   clear H1
   replace H := Option.bind_eq_some_iff.mp H
   obtain ⟨⟨t579, t580, t581, t582, t583, t584, t585, t586, t587, t588, t589, t590, t591⟩, A90, H⟩ := H
   replace H : (if (!(t561 == t579) || (!(t562 == t580) || (!(t563 == t581) || (!(t564 == t582) || ((!(t565 == t583) || (!(t566 == t584) || (!(t567 == t585) || (!(t568 == t586) || (!(t569 == t587) || (!(t570 == t588) || (!(t571 == t589) || (!(t572 == t590)))))))))))))) = true then (none) else (magnetolaw04_FieldFrames.j0 k l0 t575 t576 (t573 != t591))) = some r := H
   have A9 := Aside0.mk A90
   clear A90
   have HC10 := Aside0.mk H
   clear H
   go_enter Try.func7, Try.ntmps7
   go_upto_region 8 with (first | ((with_reducible refine gate_callee (f := 29) rfl ?_); refine goesL_ (some 16) rfl rfl Try.func29 (by kernel_rfl) rfl #[.slice A0 l0.length c0] rfl (by (try simp only [List.map_toArray, List.map_cons, List.map_nil]); first | done | rfl | (simp only [List.length_drop, List.length_take]; rfl)) ?_; (with_reducible refine (field_Frame.calls k _ _ l0 t561 t562 t563 t564 t565 t566 t567 t568 t569 t570 t571 t572 t573 _ ?side1 ?side2 A5.out).mono ?_); (case side1 => repeat (first | exact HR0.out | (with_reducible refine Kd.C_alloc ?_ _) | (with_reducible refine Kd.C_drewN ?_ _) | (with_reducible refine Kd.C_drew ?_))); (case side2 => exact HC0.out); rintro e w11 ⟨rfl, hb⟩; refine ⟨_, rfl, ?_⟩; have n0_ := Aside0.mk (below_step (by repeat (first | (with_reducible first | exact HB.out | apply below_alloc | apply pw_below_drewN | apply below_drew1) | exact HB.out)) hb); clear HB; have HB := n0_; clear n0_; (try clear hb); (try clear hb2); (try clear hk); (try clear hi)) | ((with_reducible refine gate_dst (N := 3) rfl ?_); (try (refine gate_guard (by rfl) ?_; dsimp only)); refine box_event ?hg (N := 3) ?hd (cs := #[.int .i64 0, .bool false, .bool false, .int .i64 0, .int .u8 0, .int .u8 0, .int .u8 0, .int .u8 0, .int .u8 0, .int .u8 0, .int .u8 0, .int .u8 0]) (t := 24) ?hr ?_; (case hd => rfl); (case hg => rfl); (case hr => first | (go_simp; done) | (go_simp; rfl)); intro gb574 hg w12 hbox hb; have n0_ := Aside0.mk (below_step (by repeat (first | (with_reducible first | exact HB.out | apply below_alloc | apply pw_below_drewN | apply below_drew1) | exact HB.out)) hb); have n1_ := Aside0.mk (hbox); have n2_ := Aside0.mk ((by rw [hg]; exact (below_size (by repeat (first | (with_reducible first | exact HB.out | apply below_alloc | apply pw_below_drewN | apply below_drew1) | exact HB.out))) : w.heap.size ≤ gb574)); have n3_ := Aside0.mk ((by rw [hg]; exact (below_size (by repeat (first | (with_reducible first | exact HB.out | apply below_alloc | apply pw_below_drewN | apply below_drew1) | exact HB.out))) : w.heap.size ≤ gb574)); clear HB; have HB := n0_; have BK574 := n1_; have GW574 := n2_; have GE574 := n3_; clear n0_ n1_ n2_ n3_; clear hb hbox hg; have hcz13_0 : w12.cell? ⟨gb574, 0, none⟩ = some (.int .i64 0) := (blk_cell BK574.out 0).trans rfl; have hcz13_1 : w12.cell? ⟨gb574, 1, none⟩ = some (.bool false) := (blk_cell BK574.out 1).trans rfl; have hcz13_2 : w12.cell? ⟨gb574, 2, none⟩ = some (.bool false) := (blk_cell BK574.out 2).trans rfl; have hcz13_3 : w12.cell? ⟨gb574, 3, none⟩ = some (.int .i64 0) := (blk_cell BK574.out 3).trans rfl; have hcz13_4 : w12.cell? ⟨gb574, 4, none⟩ = some (.int .u8 0) := (blk_cell BK574.out 4).trans rfl; have hcz13_5 : w12.cell? ⟨gb574, 5, none⟩ = some (.int .u8 0) := (blk_cell BK574.out 5).trans rfl; have hcz13_6 : w12.cell? ⟨gb574, 6, none⟩ = some (.int .u8 0) := (blk_cell BK574.out 6).trans rfl; have hcz13_7 : w12.cell? ⟨gb574, 7, none⟩ = some (.int .u8 0) := (blk_cell BK574.out 7).trans rfl; have hcz13_8 : w12.cell? ⟨gb574, 8, none⟩ = some (.int .u8 0) := (blk_cell BK574.out 8).trans rfl; have hcz13_9 : w12.cell? ⟨gb574, 9, none⟩ = some (.int .u8 0) := (blk_cell BK574.out 9).trans rfl; have hcz13_10 : w12.cell? ⟨gb574, 10, none⟩ = some (.int .u8 0) := (blk_cell BK574.out 10).trans rfl; have hcz13_11 : w12.cell? ⟨gb574, 11, none⟩ = some (.int .u8 0) := (blk_cell BK574.out 11).trans rfl; have hfz13_0 := blk_frozen BK574.out 0; have hfz13_1 := blk_frozen BK574.out 1; have hfz13_2 := blk_frozen BK574.out 2; have hfz13_3 := blk_frozen BK574.out 3; have hfz13_4 := blk_frozen BK574.out 4; have hfz13_5 := blk_frozen BK574.out 5; have hfz13_6 := blk_frozen BK574.out 6; have hfz13_7 := blk_frozen BK574.out 7; have hfz13_8 := blk_frozen BK574.out 8; have hfz13_9 := blk_frozen BK574.out 9; have hfz13_10 := blk_frozen BK574.out 10; have hfz13_11 := blk_frozen BK574.out 11) | ((with_reducible refine gate_callee (f := 30) rfl ?_); refine goesL_ (some 21) rfl rfl Try.func30 (by kernel_rfl) rfl #[.slice A0 l0.length c0] rfl (by (try simp only [List.map_toArray, List.map_cons, List.map_nil]); first | done | rfl | (simp only [List.length_drop, List.length_take]; rfl)) ?_; (with_reducible refine (field_Right.calls k _ _ l0 t575 t576 _ ?side1 ?side2 A6.out).mono ?_); (case side1 => exact Kd.C_below HR0.out (by repeat (first | (with_reducible first | exact HB.out | apply below_alloc | apply pw_below_drewN | apply below_drew1 | refine below_set ?_ GE574.out) | exact HB.out))); (case side2 => exact HC0.out); rintro e w14 ⟨rfl, hb⟩; refine ⟨_, rfl, ?_⟩; have n0_ := Aside0.mk (blk_below (g := gb574) (o := .cells #[.int .i64 t561, .bool t562, .bool t563, .int .i64 t564, .int .u8 t565, .int .u8 t566, .int .u8 t567, .int .u8 t568, .int .u8 t569, .int .u8 t570, .int .u8 t571, .int .u8 t572] 24 (0, 0)) (by (with_reducible repeat (first | refine blk_drewN ?_ _ | refine blk_drew ?_ | refine blk_alloc ?_ _)); refine blk_put (cs := #[.int .i64 t561, .bool t562, .bool t563, .int .i64 t564, .int .u8 t565, .int .u8 t566, .int .u8 t567, .int .u8 t568, .int .u8 t569, .int .u8 t570, .int .u8 t571, .int .u8 0]) ?_ 11 _ rfl; (with_reducible repeat (first | refine blk_drewN ?_ _ | refine blk_drew ?_ | refine blk_alloc ?_ _)); refine blk_put (cs := #[.int .i64 t561, .bool t562, .bool t563, .int .i64 t564, .int .u8 t565, .int .u8 t566, .int .u8 t567, .int .u8 t568, .int .u8 t569, .int .u8 t570, .int .u8 0, .int .u8 0]) ?_ 10 _ rfl; (with_reducible repeat (first | refine blk_drewN ?_ _ | refine blk_drew ?_ | refine blk_alloc ?_ _)); refine blk_put (cs := #[.int .i64 t561, .bool t562, .bool t563, .int .i64 t564, .int .u8 t565, .int .u8 t566, .int .u8 t567, .int .u8 t568, .int .u8 t569, .int .u8 0, .int .u8 0, .int .u8 0]) ?_ 9 _ rfl; (with_reducible repeat (first | refine blk_drewN ?_ _ | refine blk_drew ?_ | refine blk_alloc ?_ _)); refine blk_put (cs := #[.int .i64 t561, .bool t562, .bool t563, .int .i64 t564, .int .u8 t565, .int .u8 t566, .int .u8 t567, .int .u8 t568, .int .u8 0, .int .u8 0, .int .u8 0, .int .u8 0]) ?_ 8 _ rfl; (with_reducible repeat (first | refine blk_drewN ?_ _ | refine blk_drew ?_ | refine blk_alloc ?_ _)); refine blk_put (cs := #[.int .i64 t561, .bool t562, .bool t563, .int .i64 t564, .int .u8 t565, .int .u8 t566, .int .u8 t567, .int .u8 0, .int .u8 0, .int .u8 0, .int .u8 0, .int .u8 0]) ?_ 7 _ rfl; (with_reducible repeat (first | refine blk_drewN ?_ _ | refine blk_drew ?_ | refine blk_alloc ?_ _)); refine blk_put (cs := #[.int .i64 t561, .bool t562, .bool t563, .int .i64 t564, .int .u8 t565, .int .u8 t566, .int .u8 0, .int .u8 0, .int .u8 0, .int .u8 0, .int .u8 0, .int .u8 0]) ?_ 6 _ rfl; (with_reducible repeat (first | refine blk_drewN ?_ _ | refine blk_drew ?_ | refine blk_alloc ?_ _)); refine blk_put (cs := #[.int .i64 t561, .bool t562, .bool t563, .int .i64 t564, .int .u8 t565, .int .u8 0, .int .u8 0, .int .u8 0, .int .u8 0, .int .u8 0, .int .u8 0, .int .u8 0]) ?_ 5 _ rfl; (with_reducible repeat (first | refine blk_drewN ?_ _ | refine blk_drew ?_ | refine blk_alloc ?_ _)); refine blk_put (cs := #[.int .i64 t561, .bool t562, .bool t563, .int .i64 t564, .int .u8 0, .int .u8 0, .int .u8 0, .int .u8 0, .int .u8 0, .int .u8 0, .int .u8 0, .int .u8 0]) ?_ 4 _ rfl; (with_reducible repeat (first | refine blk_drewN ?_ _ | refine blk_drew ?_ | refine blk_alloc ?_ _)); refine blk_put (cs := #[.int .i64 t561, .bool t562, .bool t563, .int .i64 0, .int .u8 0, .int .u8 0, .int .u8 0, .int .u8 0, .int .u8 0, .int .u8 0, .int .u8 0, .int .u8 0]) ?_ 3 _ rfl; (with_reducible repeat (first | refine blk_drewN ?_ _ | refine blk_drew ?_ | refine blk_alloc ?_ _)); refine blk_put (cs := #[.int .i64 t561, .bool t562, .bool false, .int .i64 0, .int .u8 0, .int .u8 0, .int .u8 0, .int .u8 0, .int .u8 0, .int .u8 0, .int .u8 0, .int .u8 0]) ?_ 2 _ rfl; (with_reducible repeat (first | refine blk_drewN ?_ _ | refine blk_drew ?_ | refine blk_alloc ?_ _)); refine blk_put (cs := #[.int .i64 t561, .bool false, .bool false, .int .i64 0, .int .u8 0, .int .u8 0, .int .u8 0, .int .u8 0, .int .u8 0, .int .u8 0, .int .u8 0, .int .u8 0]) ?_ 1 _ rfl; (with_reducible repeat (first | refine blk_drewN ?_ _ | refine blk_drew ?_ | refine blk_alloc ?_ _)); refine blk_put (cs := #[.int .i64 0, .bool false, .bool false, .int .i64 0, .int .u8 0, .int .u8 0, .int .u8 0, .int .u8 0, .int .u8 0, .int .u8 0, .int .u8 0, .int .u8 0]) ?_ 0 _ rfl; (with_reducible repeat (first | refine blk_drewN ?_ _ | refine blk_drew ?_ | refine blk_alloc ?_ _)); exact BK574.out) hb); have n1_ := Aside0.mk (below_step (by repeat (first | (with_reducible first | exact HB.out | apply below_alloc | apply pw_below_drewN | apply below_drew1 | refine below_set ?_ GE574.out) | exact HB.out)) hb); clear BK574; clear HB; have BK574 := n0_; have HB := n1_; clear n0_ n1_; (try clear hb); (try clear hb2); (try clear hk); (try clear hi)) | ((with_reducible refine gate_callee (f := 25) rfl ?_); refine goesL_ (some 25) rfl rfl Try.func25 (by kernel_rfl) rfl #[.slice A0 l0.length c0] rfl (by (try simp only [List.map_toArray, List.map_cons, List.map_nil]); first | done | rfl | (simp only [List.length_drop, List.length_take]; rfl)) ?_; (with_reducible refine (magnetolaw04_levels.calls k _ _ l0 true _ ?side1 ?side2 A7.out).mono ?_); (case side1 => repeat (first | exact (Kd.C_below HR0.out HB.out) | (with_reducible refine Kd.C_alloc ?_ _) | (with_reducible refine Kd.C_drewN ?_ _) | (with_reducible refine Kd.C_drew ?_))); (case side2 => exact HC0.out); rintro e w' ⟨rfl, ⟨nd, rfl⟩⟩; refine ⟨_, rfl, ?_⟩; (try (rw [drewN_self w14]; generalize hq_ : World.drewN w14 _ = w14; have n0_ : Aside0 (w14.heap[gb574]? = some (.cells #[.int .i64 t561, .bool t562, .bool t563, .int .i64 t564, .int .u8 t565, .int .u8 t566, .int .u8 t567, .int .u8 t568, .int .u8 t569, .int .u8 t570, .int .u8 t571, .int .u8 t572] 24 (0, 0))) := ⟨by rw [← hq_]; exact (by (with_reducible repeat (first | refine blk_drewN ?_ _ | refine blk_drew ?_ | refine blk_alloc ?_ _)); exact BK574.out)⟩; have n1_ : Aside0 (Below w.heap.size w w14) := ⟨by rw [← hq_]; exact (by repeat (first | (with_reducible first | exact HB.out | apply below_alloc | apply pw_below_drewN | apply below_drew1 | refine below_set ?_ GE574.out) | exact HB.out))⟩; clear BK574 HB hq_; have BK574 := n0_; have HB := n1_; clear n0_ n1_))) | ((with_reducible refine gate_callee (f := 31) rfl ?_); refine goesL_ (some 47) rfl rfl Try.func31 (by kernel_rfl) rfl #[.slice A0 l0.length c0] rfl (by (try simp only [List.map_toArray, List.map_cons, List.map_nil]); first | done | rfl | (simp only [List.length_drop, List.length_take]; rfl)) ?_; (with_reducible refine (magnetoref04_Frame.calls k _ _ l0 t579 t580 t581 t582 t583 t584 t585 t586 t587 t588 t589 t590 t591 _ ?side1 ?side2 A9.out).mono ?_); (case side1 => repeat (first | exact (Kd.C_below HR0.out HB.out) | (with_reducible refine Kd.C_alloc ?_ _) | (with_reducible refine Kd.C_drewN ?_ _) | (with_reducible refine Kd.C_drew ?_))); (case side2 => exact HC0.out); rintro e w15 ⟨rfl, hb⟩; refine ⟨_, rfl, ?_⟩; have n0_ := Aside0.mk (blk_below (g := gb574) (o := .cells #[.int .i64 t561, .bool t562, .bool t563, .int .i64 t564, .int .u8 t565, .int .u8 t566, .int .u8 t567, .int .u8 t568, .int .u8 t569, .int .u8 t570, .int .u8 t571, .int .u8 t572] 24 (0, 0)) (by (with_reducible repeat (first | refine blk_drewN ?_ _ | refine blk_drew ?_ | refine blk_alloc ?_ _)); exact BK574.out) hb); have n1_ := Aside0.mk (below_step (by repeat (first | (with_reducible first | exact HB.out | apply below_alloc | apply pw_below_drewN | apply below_drew1 | refine below_set ?_ GE574.out) | exact HB.out)) hb); clear BK574; clear HB; have BK574 := n0_; have HB := n1_; clear n0_ n1_; (try clear hb); (try clear hb2); (try clear hk); (try clear hi)) | ((with_reducible refine gate_dst (N := 7) rfl ?_); (try (refine gate_guard (by rfl) ?_; dsimp only)); refine box_event ?hg (N := 7) ?hd (cs := #[.int .i64 0, .bool false, .bool false, .int .i64 0, .int .u8 0, .int .u8 0, .int .u8 0, .int .u8 0, .int .u8 0, .int .u8 0, .int .u8 0, .int .u8 0]) (t := 24) ?hr ?_; (case hd => rfl); (case hg => rfl); (case hr => first | (go_simp; done) | (go_simp; rfl)); intro gb592 hg w16 hbox hb; have n0_ := Aside0.mk (blk_below (g := gb574) (o := .cells #[.int .i64 t561, .bool t562, .bool t563, .int .i64 t564, .int .u8 t565, .int .u8 t566, .int .u8 t567, .int .u8 t568, .int .u8 t569, .int .u8 t570, .int .u8 t571, .int .u8 t572] 24 (0, 0)) (by (with_reducible repeat (first | refine blk_drewN ?_ _ | refine blk_drew ?_ | refine blk_alloc ?_ _)); exact BK574.out) hb); have n1_ := Aside0.mk (below_step (by repeat (first | (with_reducible first | exact HB.out | apply below_alloc | apply pw_below_drewN | apply below_drew1 | refine below_set ?_ GE574.out) | exact HB.out)) hb); have n2_ := Aside0.mk (hbox); have n3_ := Aside0.mk ((by rw [hg]; exact (below_size (by repeat (first | (with_reducible first | exact HB.out | apply below_alloc | apply pw_below_drewN | apply below_drew1 | refine below_set ?_ GE574.out) | exact HB.out))) : w.heap.size ≤ gb592)); have n4_ := Aside0.mk ((by rw [hg]; exact (below_size (by repeat (first | (with_reducible first | exact HB.out | apply below_alloc | apply pw_below_drewN | apply below_drew1 | refine below_set ?_ GE574.out) | exact HB.out))) : w.heap.size ≤ gb592)); have n5_ := Aside0.mk ((by rw [hg]; exact Nat.ne_of_lt (blk_lt (g := gb574) (o := .cells #[.int .i64 t561, .bool t562, .bool t563, .int .i64 t564, .int .u8 t565, .int .u8 t566, .int .u8 t567, .int .u8 t568, .int .u8 t569, .int .u8 t570, .int .u8 t571, .int .u8 t572] 24 (0, 0)) (by (with_reducible repeat (first | refine blk_drewN ?_ _ | refine blk_drew ?_ | refine blk_alloc ?_ _)); exact BK574.out)) : gb574 ≠ gb592)); have n6_ := Aside0.mk ((by rw [hg]; exact Nat.ne_of_gt (blk_lt (g := gb574) (o := .cells #[.int .i64 t561, .bool t562, .bool t563, .int .i64 t564, .int .u8 t565, .int .u8 t566, .int .u8 t567, .int .u8 t568, .int .u8 t569, .int .u8 t570, .int .u8 t571, .int .u8 t572] 24 (0, 0)) (by (with_reducible repeat (first | refine blk_drewN ?_ _ | refine blk_drew ?_ | refine blk_alloc ?_ _)); exact BK574.out)) : gb592 ≠ gb574)); clear BK574; clear HB; have BK574 := n0_; have HB := n1_; have BK592 := n2_; have GW592 := n3_; have GE592 := n4_; have NB574_592 := n5_; have NB592_574 := n6_; clear n0_ n1_ n2_ n3_ n4_ n5_ n6_; clear hb hbox hg; have hnb17 := NB592_574.out; have hnc17 := NB574_592.out; have hcz18_0 : w16.cell? ⟨gb592, 0, none⟩ = some (.int .i64 0) := (blk_cell BK592.out 0).trans rfl; have hcz18_1 : w16.cell? ⟨gb592, 1, none⟩ = some (.bool false) := (blk_cell BK592.out 1).trans rfl; have hcz18_2 : w16.cell? ⟨gb592, 2, none⟩ = some (.bool false) := (blk_cell BK592.out 2).trans rfl; have hcz18_3 : w16.cell? ⟨gb592, 3, none⟩ = some (.int .i64 0) := (blk_cell BK592.out 3).trans rfl; have hcz18_4 : w16.cell? ⟨gb592, 4, none⟩ = some (.int .u8 0) := (blk_cell BK592.out 4).trans rfl; have hcz18_5 : w16.cell? ⟨gb592, 5, none⟩ = some (.int .u8 0) := (blk_cell BK592.out 5).trans rfl; have hcz18_6 : w16.cell? ⟨gb592, 6, none⟩ = some (.int .u8 0) := (blk_cell BK592.out 6).trans rfl; have hcz18_7 : w16.cell? ⟨gb592, 7, none⟩ = some (.int .u8 0) := (blk_cell BK592.out 7).trans rfl; have hcz18_8 : w16.cell? ⟨gb592, 8, none⟩ = some (.int .u8 0) := (blk_cell BK592.out 8).trans rfl; have hcz18_9 : w16.cell? ⟨gb592, 9, none⟩ = some (.int .u8 0) := (blk_cell BK592.out 9).trans rfl; have hcz18_10 : w16.cell? ⟨gb592, 10, none⟩ = some (.int .u8 0) := (blk_cell BK592.out 10).trans rfl; have hcz18_11 : w16.cell? ⟨gb592, 11, none⟩ = some (.int .u8 0) := (blk_cell BK592.out 11).trans rfl; have hfz18_0 := blk_frozen BK592.out 0; have hfz18_1 := blk_frozen BK592.out 1; have hfz18_2 := blk_frozen BK592.out 2; have hfz18_3 := blk_frozen BK592.out 3; have hfz18_4 := blk_frozen BK592.out 4; have hfz18_5 := blk_frozen BK592.out 5; have hfz18_6 := blk_frozen BK592.out 6; have hfz18_7 := blk_frozen BK592.out 7; have hfz18_8 := blk_frozen BK592.out 8; have hfz18_9 := blk_frozen BK592.out 9; have hfz18_10 := blk_frozen BK592.out 10; have hfz18_11 := blk_frozen BK592.out 11))
   (try simp only [Act.put, List.setIfInBounds_toArray, List.set_cons_zero, List.set_cons_succ])
   go_cut [57] (fun v57 wc => ∃ (kq : Nat) (x57_9 : Bool), v57 = .bool x57_9 ∧ Aside0 (magnetolaw04_FieldFrames.j0 kq l0 t575 t576 x57_9 = some r) ∧ Aside0 (kq ≤ k) ∧ Aside0 (wc.heap[gb574]? = some (.cells #[.int .i64 t561, .bool t562, .bool t563, .int .i64 t564, .int .u8 t565, .int .u8 t566, .int .u8 t567, .int .u8 t568, .int .u8 t569, .int .u8 t570, .int .u8 t571, .int .u8 t572] 24 (0, 0))) ∧ Aside0 (wc.heap[gb592]? = some (.cells #[.int .i64 t579, .bool t580, .bool t581, .int .i64 t582, .int .u8 t583, .int .u8 t584, .int .u8 t585, .int .u8 t586, .int .u8 t587, .int .u8 t588, .int .u8 t589, .int .u8 t590] 24 (0, 0))) ∧ Aside0 (Below w.heap.size w wc))
   case first =>
    have H := HC10.out
    clear HC10
    by_cases c19 : (!(t561 == t579) || (!(t562 == t580) || (!(t563 == t581) || (!(t564 == t582) || ((!(t565 == t583) || (!(t566 == t584) || (!(t567 == t585) || (!(t568 == t586) || (!(t569 == t587) || (!(t570 == t588) || (!(t571 == t589) || (!(t572 == t590)))))))))))))) = true
    ·
     rw [if_pos c19] at H
     exact absurd H (by simp)
    ·
     rw [if_neg c19] at H
     have c19b0 : (!(t561 == t579) || (!(t562 == t580) || (!(t563 == t581) || (!(t564 == t582) || ((!(t565 == t583) || (!(t566 == t584) || (!(t567 == t585) || (!(t568 == t586) || (!(t569 == t587) || (!(t570 == t588) || (!(t571 == t589) || (!(t572 == t590)))))))))))))) = false := by simpa using c19
     clear c19
     (first | rw [c19b0] | (simp only [i64_w, i32_w]; rw [c19b0]) | skip)
     have H' := Aside0.mk H
     clear H
     have hnb20 := NB574_592.out
     have hnc20 := NB592_574.out
     have hcz21_0 : w16.cell? ⟨gb574, 0, none⟩ = some (.int .i64 t561) := (blk_cell BK574.out 0).trans rfl
     have hcz21_1 : w16.cell? ⟨gb574, 1, none⟩ = some (.bool t562) := (blk_cell BK574.out 1).trans rfl
     have hcz21_2 : w16.cell? ⟨gb574, 2, none⟩ = some (.bool t563) := (blk_cell BK574.out 2).trans rfl
     have hcz21_3 : w16.cell? ⟨gb574, 3, none⟩ = some (.int .i64 t564) := (blk_cell BK574.out 3).trans rfl
     have hcz21_4 : w16.cell? ⟨gb574, 4, none⟩ = some (.int .u8 t565) := (blk_cell BK574.out 4).trans rfl
     have hcz21_5 : w16.cell? ⟨gb574, 5, none⟩ = some (.int .u8 t566) := (blk_cell BK574.out 5).trans rfl
     have hcz21_6 : w16.cell? ⟨gb574, 6, none⟩ = some (.int .u8 t567) := (blk_cell BK574.out 6).trans rfl
     have hcz21_7 : w16.cell? ⟨gb574, 7, none⟩ = some (.int .u8 t568) := (blk_cell BK574.out 7).trans rfl
     have hcz21_8 : w16.cell? ⟨gb574, 8, none⟩ = some (.int .u8 t569) := (blk_cell BK574.out 8).trans rfl
     have hcz21_9 : w16.cell? ⟨gb574, 9, none⟩ = some (.int .u8 t570) := (blk_cell BK574.out 9).trans rfl
     have hcz21_10 : w16.cell? ⟨gb574, 10, none⟩ = some (.int .u8 t571) := (blk_cell BK574.out 10).trans rfl
     have hcz21_11 : w16.cell? ⟨gb574, 11, none⟩ = some (.int .u8 t572) := (blk_cell BK574.out 11).trans rfl
     have hfz21_0 := blk_frozen BK574.out 0
     have hfz21_1 := blk_frozen BK574.out 1
     have hfz21_2 := blk_frozen BK574.out 2
     have hfz21_3 := blk_frozen BK574.out 3
     have hfz21_4 := blk_frozen BK574.out 4
     have hfz21_5 := blk_frozen BK574.out 5
     have hfz21_6 := blk_frozen BK574.out 6
     have hfz21_7 := blk_frozen BK574.out 7
     have hfz21_8 := blk_frozen BK574.out 8
     have hfz21_9 := blk_frozen BK574.out 9
     have hfz21_10 := blk_frozen BK574.out 10
     have hfz21_11 := blk_frozen BK574.out 11
     have hcz22_0 : w16.cell? ⟨gb592, 0, none⟩ = some (.int .i64 0) := (blk_cell BK592.out 0).trans rfl
     have hcz22_1 : w16.cell? ⟨gb592, 1, none⟩ = some (.bool false) := (blk_cell BK592.out 1).trans rfl
     have hcz22_2 : w16.cell? ⟨gb592, 2, none⟩ = some (.bool false) := (blk_cell BK592.out 2).trans rfl
     have hcz22_3 : w16.cell? ⟨gb592, 3, none⟩ = some (.int .i64 0) := (blk_cell BK592.out 3).trans rfl
     have hcz22_4 : w16.cell? ⟨gb592, 4, none⟩ = some (.int .u8 0) := (blk_cell BK592.out 4).trans rfl
     have hcz22_5 : w16.cell? ⟨gb592, 5, none⟩ = some (.int .u8 0) := (blk_cell BK592.out 5).trans rfl
     have hcz22_6 : w16.cell? ⟨gb592, 6, none⟩ = some (.int .u8 0) := (blk_cell BK592.out 6).trans rfl
     have hcz22_7 : w16.cell? ⟨gb592, 7, none⟩ = some (.int .u8 0) := (blk_cell BK592.out 7).trans rfl
     have hcz22_8 : w16.cell? ⟨gb592, 8, none⟩ = some (.int .u8 0) := (blk_cell BK592.out 8).trans rfl
     have hcz22_9 : w16.cell? ⟨gb592, 9, none⟩ = some (.int .u8 0) := (blk_cell BK592.out 9).trans rfl
     have hcz22_10 : w16.cell? ⟨gb592, 10, none⟩ = some (.int .u8 0) := (blk_cell BK592.out 10).trans rfl
     have hcz22_11 : w16.cell? ⟨gb592, 11, none⟩ = some (.int .u8 0) := (blk_cell BK592.out 11).trans rfl
     have hfz22_0 := blk_frozen BK592.out 0
     have hfz22_1 := blk_frozen BK592.out 1
     have hfz22_2 := blk_frozen BK592.out 2
     have hfz22_3 := blk_frozen BK592.out 3
     have hfz22_4 := blk_frozen BK592.out 4
     have hfz22_5 := blk_frozen BK592.out 5
     have hfz22_6 := blk_frozen BK592.out 6
     have hfz22_7 := blk_frozen BK592.out 7
     have hfz22_8 := blk_frozen BK592.out 8
     have hfz22_9 := blk_frozen BK592.out 9
     have hfz22_10 := blk_frozen BK592.out 10
     have hfz22_11 := blk_frozen BK592.out 11
     go_wp2
     go_meet
     case rel => exact ⟨_, ((t573 != t591)), (by first | rfl | (simp; done) | (simp [*]; done)), H', ⟨by first | omega | exact Nat.le_refl _⟩, ⟨by (with_reducible repeat (first | refine blk_drewN ?_ _ | refine blk_drew ?_ | refine blk_alloc ?_ _)); refine blk_far ?_ NB574_592.out _; (with_reducible repeat (first | refine blk_drewN ?_ _ | refine blk_drew ?_ | refine blk_alloc ?_ _)); refine blk_far ?_ NB574_592.out _; (with_reducible repeat (first | refine blk_drewN ?_ _ | refine blk_drew ?_ | refine blk_alloc ?_ _)); refine blk_far ?_ NB574_592.out _; (with_reducible repeat (first | refine blk_drewN ?_ _ | refine blk_drew ?_ | refine blk_alloc ?_ _)); refine blk_far ?_ NB574_592.out _; (with_reducible repeat (first | refine blk_drewN ?_ _ | refine blk_drew ?_ | refine blk_alloc ?_ _)); refine blk_far ?_ NB574_592.out _; (with_reducible repeat (first | refine blk_drewN ?_ _ | refine blk_drew ?_ | refine blk_alloc ?_ _)); refine blk_far ?_ NB574_592.out _; (with_reducible repeat (first | refine blk_drewN ?_ _ | refine blk_drew ?_ | refine blk_alloc ?_ _)); refine blk_far ?_ NB574_592.out _; (with_reducible repeat (first | refine blk_drewN ?_ _ | refine blk_drew ?_ | refine blk_alloc ?_ _)); refine blk_far ?_ NB574_592.out _; (with_reducible repeat (first | refine blk_drewN ?_ _ | refine blk_drew ?_ | refine blk_alloc ?_ _)); refine blk_far ?_ NB574_592.out _; (with_reducible repeat (first | refine blk_drewN ?_ _ | refine blk_drew ?_ | refine blk_alloc ?_ _)); refine blk_far ?_ NB574_592.out _; (with_reducible repeat (first | refine blk_drewN ?_ _ | refine blk_drew ?_ | refine blk_alloc ?_ _)); refine blk_far ?_ NB574_592.out _; (with_reducible repeat (first | refine blk_drewN ?_ _ | refine blk_drew ?_ | refine blk_alloc ?_ _)); refine blk_far ?_ NB574_592.out _; (with_reducible repeat (first | refine blk_drewN ?_ _ | refine blk_drew ?_ | refine blk_alloc ?_ _)); exact BK574.out⟩, ⟨by (with_reducible repeat (first | refine blk_drewN ?_ _ | refine blk_drew ?_ | refine blk_alloc ?_ _)); refine blk_put (cs := #[.int .i64 t579, .bool t580, .bool t581, .int .i64 t582, .int .u8 t583, .int .u8 t584, .int .u8 t585, .int .u8 t586, .int .u8 t587, .int .u8 t588, .int .u8 t589, .int .u8 0]) ?_ 11 _ rfl; (with_reducible repeat (first | refine blk_drewN ?_ _ | refine blk_drew ?_ | refine blk_alloc ?_ _)); refine blk_put (cs := #[.int .i64 t579, .bool t580, .bool t581, .int .i64 t582, .int .u8 t583, .int .u8 t584, .int .u8 t585, .int .u8 t586, .int .u8 t587, .int .u8 t588, .int .u8 0, .int .u8 0]) ?_ 10 _ rfl; (with_reducible repeat (first | refine blk_drewN ?_ _ | refine blk_drew ?_ | refine blk_alloc ?_ _)); refine blk_put (cs := #[.int .i64 t579, .bool t580, .bool t581, .int .i64 t582, .int .u8 t583, .int .u8 t584, .int .u8 t585, .int .u8 t586, .int .u8 t587, .int .u8 0, .int .u8 0, .int .u8 0]) ?_ 9 _ rfl; (with_reducible repeat (first | refine blk_drewN ?_ _ | refine blk_drew ?_ | refine blk_alloc ?_ _)); refine blk_put (cs := #[.int .i64 t579, .bool t580, .bool t581, .int .i64 t582, .int .u8 t583, .int .u8 t584, .int .u8 t585, .int .u8 t586, .int .u8 0, .int .u8 0, .int .u8 0, .int .u8 0]) ?_ 8 _ rfl; (with_reducible repeat (first | refine blk_drewN ?_ _ | refine blk_drew ?_ | refine blk_alloc ?_ _)); refine blk_put (cs := #[.int .i64 t579, .bool t580, .bool t581, .int .i64 t582, .int .u8 t583, .int .u8 t584, .int .u8 t585, .int .u8 0, .int .u8 0, .int .u8 0, .int .u8 0, .int .u8 0]) ?_ 7 _ rfl; (with_reducible repeat (first | refine blk_drewN ?_ _ | refine blk_drew ?_ | refine blk_alloc ?_ _)); refine blk_put (cs := #[.int .i64 t579, .bool t580, .bool t581, .int .i64 t582, .int .u8 t583, .int .u8 t584, .int .u8 0, .int .u8 0, .int .u8 0, .int .u8 0, .int .u8 0, .int .u8 0]) ?_ 6 _ rfl; (with_reducible repeat (first | refine blk_drewN ?_ _ | refine blk_drew ?_ | refine blk_alloc ?_ _)); refine blk_put (cs := #[.int .i64 t579, .bool t580, .bool t581, .int .i64 t582, .int .u8 t583, .int .u8 0, .int .u8 0, .int .u8 0, .int .u8 0, .int .u8 0, .int .u8 0, .int .u8 0]) ?_ 5 _ rfl; (with_reducible repeat (first | refine blk_drewN ?_ _ | refine blk_drew ?_ | refine blk_alloc ?_ _)); refine blk_put (cs := #[.int .i64 t579, .bool t580, .bool t581, .int .i64 t582, .int .u8 0, .int .u8 0, .int .u8 0, .int .u8 0, .int .u8 0, .int .u8 0, .int .u8 0, .int .u8 0]) ?_ 4 _ rfl; (with_reducible repeat (first | refine blk_drewN ?_ _ | refine blk_drew ?_ | refine blk_alloc ?_ _)); refine blk_put (cs := #[.int .i64 t579, .bool t580, .bool t581, .int .i64 0, .int .u8 0, .int .u8 0, .int .u8 0, .int .u8 0, .int .u8 0, .int .u8 0, .int .u8 0, .int .u8 0]) ?_ 3 _ rfl; (with_reducible repeat (first | refine blk_drewN ?_ _ | refine blk_drew ?_ | refine blk_alloc ?_ _)); refine blk_put (cs := #[.int .i64 t579, .bool t580, .bool false, .int .i64 0, .int .u8 0, .int .u8 0, .int .u8 0, .int .u8 0, .int .u8 0, .int .u8 0, .int .u8 0, .int .u8 0]) ?_ 2 _ rfl; (with_reducible repeat (first | refine blk_drewN ?_ _ | refine blk_drew ?_ | refine blk_alloc ?_ _)); refine blk_put (cs := #[.int .i64 t579, .bool false, .bool false, .int .i64 0, .int .u8 0, .int .u8 0, .int .u8 0, .int .u8 0, .int .u8 0, .int .u8 0, .int .u8 0, .int .u8 0]) ?_ 1 _ rfl; (with_reducible repeat (first | refine blk_drewN ?_ _ | refine blk_drew ?_ | refine blk_alloc ?_ _)); refine blk_put (cs := #[.int .i64 0, .bool false, .bool false, .int .i64 0, .int .u8 0, .int .u8 0, .int .u8 0, .int .u8 0, .int .u8 0, .int .u8 0, .int .u8 0, .int .u8 0]) ?_ 0 _ rfl; (with_reducible repeat (first | refine blk_drewN ?_ _ | refine blk_drew ?_ | refine blk_alloc ?_ _)); exact BK592.out⟩, ⟨by repeat (first | (with_reducible first | exact HB.out | apply below_alloc | apply pw_below_drewN | apply below_drew1 | refine below_set ?_ GE574.out | refine below_set ?_ GE592.out) | exact HB.out)⟩⟩
   case rest =>
    clear HC10
    try clear c1
    try clear c2
    try clear c2b0
    try clear c2b1
    try clear p2
    try clear c3
    try clear c7
    try clear c8
    try clear c17
    try clear c19
    try clear c19b0
    try clear c20
    try clear hcz13_0
    try clear hcz13_1
    try clear hcz13_10
    try clear hcz13_11
    try clear hcz13_2
    try clear hcz13_3
    try clear hcz13_4
    try clear hcz13_5
    try clear hcz13_6
    try clear hcz13_7
    try clear hcz13_8
    try clear hcz13_9
    try clear hcz18_0
    try clear hcz18_1
    try clear hcz18_10
    try clear hcz18_11
    try clear hcz18_2
    try clear hcz18_3
    try clear hcz18_4
    try clear hcz18_5
    try clear hcz18_6
    try clear hcz18_7
    try clear hcz18_8
    try clear hcz18_9
    try clear hcz21_0
    try clear hcz21_1
    try clear hcz21_10
    try clear hcz21_11
    try clear hcz21_2
    try clear hcz21_3
    try clear hcz21_4
    try clear hcz21_5
    try clear hcz21_6
    try clear hcz21_7
    try clear hcz21_8
    try clear hcz21_9
    try clear hcz22_0
    try clear hcz22_1
    try clear hcz22_10
    try clear hcz22_11
    try clear hcz22_2
    try clear hcz22_3
    try clear hcz22_4
    try clear hcz22_5
    try clear hcz22_6
    try clear hcz22_7
    try clear hcz22_8
    try clear hcz22_9
    try clear hfz13_0
    try clear hfz13_1
    try clear hfz13_10
    try clear hfz13_11
    try clear hfz13_2
    try clear hfz13_3
    try clear hfz13_4
    try clear hfz13_5
    try clear hfz13_6
    try clear hfz13_7
    try clear hfz13_8
    try clear hfz13_9
    try clear hfz18_0
    try clear hfz18_1
    try clear hfz18_10
    try clear hfz18_11
    try clear hfz18_2
    try clear hfz18_3
    try clear hfz18_4
    try clear hfz18_5
    try clear hfz18_6
    try clear hfz18_7
    try clear hfz18_8
    try clear hfz18_9
    try clear hfz21_0
    try clear hfz21_1
    try clear hfz21_10
    try clear hfz21_11
    try clear hfz21_2
    try clear hfz21_3
    try clear hfz21_4
    try clear hfz21_5
    try clear hfz21_6
    try clear hfz21_7
    try clear hfz21_8
    try clear hfz21_9
    try clear hfz22_0
    try clear hfz22_1
    try clear hfz22_10
    try clear hfz22_11
    try clear hfz22_2
    try clear hfz22_3
    try clear hfz22_4
    try clear hfz22_5
    try clear hfz22_6
    try clear hfz22_7
    try clear hfz22_8
    try clear hfz22_9
    obtain ⟨kq, x57_9, rfl, HA, HJ9, BK574, BK592, HB⟩ := hcut
    cases kq with
    | zero => exact absurd HA.out (by simp [magnetolaw04_FieldFrames.j0])
    | succ kj9 =>
     have H := HA.out
     clear HA
     simp only [magnetolaw04_FieldFrames.j0] at H
     by_cases c23 : x57_9 = true
     ·
      subst c23
      have H1 : (none) = some r := by rw [if_pos rfl] at H; exact H
      clear H
      have H := H1
      clear H1
      exact absurd H (by simp)
     ·
      replace c23 := Bool.eq_false_iff.mpr c23
      subst c23
      have H1 : ((magnetoref04_Ahead.f kj9 l0).bind fun t593 => (if t593 < 0 then (magnetolaw04_FieldFrames.j1 kj9 l0 t575 t576 t593 true) else (magnetolaw04_FieldFrames.j1 kj9 l0 t575 t576 t593 (decide ((l0.length : Int) < (wrap64 (t593 + 15))))))) = some r := by rw [if_neg (show ¬ (false = true) by decide)] at H; exact H
      clear H
      have H := H1
      clear H1
      replace H := Option.bind_eq_some_iff.mp H
      obtain ⟨t593, A240, H⟩ := H
      replace H : (if t593 < 0 then (magnetolaw04_FieldFrames.j1 kj9 l0 t575 t576 t593 true) else (magnetolaw04_FieldFrames.j1 kj9 l0 t575 t576 t593 (decide ((l0.length : Int) < (wrap64 (t593 + 15)))))) = some r := H
      have A24 := Aside0.mk A240
      clear A240
      have HC25 := Aside0.mk H
      clear H
      go_upto_region 11 with (first | ((with_reducible refine gate_callee (f := 26) rfl ?_); refine goesL_ (some 59) rfl rfl Try.func26 (by kernel_rfl) rfl #[.slice A0 l0.length c0] rfl (by (try simp only [List.map_toArray, List.map_cons, List.map_nil]); first | done | rfl | (simp only [List.length_drop, List.length_take]; rfl)) ?_; (with_reducible refine (magnetoref04_Ahead.calls kj9 _ _ l0 t593 _ ?side1 ?side2 A24.out).mono ?_); (case side1 => repeat (first | exact (Kd.C_below HR0.out HB.out) | (with_reducible refine Kd.C_alloc ?_ _) | (with_reducible refine Kd.C_drewN ?_ _) | (with_reducible refine Kd.C_drew ?_))); (case side2 => exact HC0.out); rintro e w26 ⟨rfl, hb⟩; refine ⟨_, rfl, ?_⟩; have n0_ := Aside0.mk (blk_below (g := gb574) (o := .cells #[.int .i64 t561, .bool t562, .bool t563, .int .i64 t564, .int .u8 t565, .int .u8 t566, .int .u8 t567, .int .u8 t568, .int .u8 t569, .int .u8 t570, .int .u8 t571, .int .u8 t572] 24 (0, 0)) (by (with_reducible repeat (first | refine blk_drewN ?_ _ | refine blk_drew ?_ | refine blk_alloc ?_ _)); exact BK574.out) hb); have n1_ := Aside0.mk (blk_below (g := gb592) (o := .cells #[.int .i64 t579, .bool t580, .bool t581, .int .i64 t582, .int .u8 t583, .int .u8 t584, .int .u8 t585, .int .u8 t586, .int .u8 t587, .int .u8 t588, .int .u8 t589, .int .u8 t590] 24 (0, 0)) (by (with_reducible repeat (first | refine blk_drewN ?_ _ | refine blk_drew ?_ | refine blk_alloc ?_ _)); exact BK592.out) hb); have n2_ := Aside0.mk (below_step (by repeat (first | (with_reducible first | exact HB.out | apply below_alloc | apply pw_below_drewN | apply below_drew1 | refine below_set ?_ GE574.out | refine below_set ?_ GE592.out) | exact HB.out)) hb); clear BK574; clear BK592; clear HB; have BK574 := n0_; have BK592 := n1_; have HB := n2_; clear n0_ n1_ n2_; (try clear hb); (try clear hb2); (try clear hk); (try clear hi)))
      (try simp only [Act.put, List.setIfInBounds_toArray, List.set_cons_zero, List.set_cons_succ])
      go_cut [68] (fun v68 wc => ∃ (kq : Nat) (x68_24 : Bool), v68 = .bool x68_24 ∧ Aside0 (magnetolaw04_FieldFrames.j1 kq l0 t575 t576 t593 x68_24 = some r) ∧ Aside0 (kq ≤ kj9) ∧ Aside0 (wc.heap[gb574]? = some (.cells #[.int .i64 t561, .bool t562, .bool t563, .int .i64 t564, .int .u8 t565, .int .u8 t566, .int .u8 t567, .int .u8 t568, .int .u8 t569, .int .u8 t570, .int .u8 t571, .int .u8 t572] 24 (0, 0))) ∧ Aside0 (wc.heap[gb592]? = some (.cells #[.int .i64 t579, .bool t580, .bool t581, .int .i64 t582, .int .u8 t583, .int .u8 t584, .int .u8 t585, .int .u8 t586, .int .u8 t587, .int .u8 t588, .int .u8 t589, .int .u8 t590] 24 (0, 0))) ∧ Aside0 (Below w.heap.size w wc))
      case first =>
       have H := HC25.out
       clear HC25
       by_cases c27 : t593 < 0
       ·
        rw [if_pos c27] at H
        have c27b0 : decide (t593 < 0) = true := decide_eq_true c27
        clear c27
        (first | rw [c27b0] | (simp only [i64_w, i32_w]; rw [c27b0]) | skip)
        have H' := Aside0.mk H
        clear H
        go_wp2
        go_meet
        case rel => exact ⟨_, (true), (by first | rfl | (simp; done) | (simp [*]; done)), H', ⟨by have := HJ9.out; first | omega | exact Nat.le_refl _⟩, ⟨by (with_reducible repeat (first | refine blk_drewN ?_ _ | refine blk_drew ?_ | refine blk_alloc ?_ _)); exact BK574.out⟩, ⟨by (with_reducible repeat (first | refine blk_drewN ?_ _ | refine blk_drew ?_ | refine blk_alloc ?_ _)); exact BK592.out⟩, ⟨by repeat (first | (with_reducible first | exact HB.out | apply below_alloc | apply pw_below_drewN | apply below_drew1 | refine below_set ?_ GE574.out | refine below_set ?_ GE592.out) | exact HB.out)⟩⟩
       ·
        rw [if_neg c27] at H
        have c27b0 : decide (t593 < 0) = false := decide_eq_false c27
        clear c27
        (first | rw [c27b0] | (simp only [i64_w, i32_w]; rw [c27b0]) | skip)
        have H' := Aside0.mk H
        clear H
        go_wp2
        go_meet
        case rel => exact ⟨_, (decide ((l0.length : Int) < (wrap64 (t593 + 15)))), (by first | rfl | (simp; done) | (simp [*]; done)), H', ⟨by have := HJ9.out; first | omega | exact Nat.le_refl _⟩, ⟨by (with_reducible repeat (first | refine blk_drewN ?_ _ | refine blk_drew ?_ | refine blk_alloc ?_ _)); exact BK574.out⟩, ⟨by (with_reducible repeat (first | refine blk_drewN ?_ _ | refine blk_drew ?_ | refine blk_alloc ?_ _)); exact BK592.out⟩, ⟨by repeat (first | (with_reducible first | exact HB.out | apply below_alloc | apply pw_below_drewN | apply below_drew1 | refine below_set ?_ GE574.out | refine below_set ?_ GE592.out) | exact HB.out)⟩⟩
      case rest =>
       clear HC25
       try clear c1
       try clear c2
       try clear c2b0
       try clear c2b1
       try clear p2
       try clear c3
       try clear p6
       try clear c7
       try clear c8
       try clear c17
       try clear c19
       try clear c19b0
       try clear c20
       try clear c23
       try clear c25
       try clear c26
       try clear c27
       try clear c27b0
       try clear hcz13_0
       try clear hcz13_1
       try clear hcz13_10
       try clear hcz13_11
       try clear hcz13_2
       try clear hcz13_3
       try clear hcz13_4
       try clear hcz13_5
       try clear hcz13_6
       try clear hcz13_7
       try clear hcz13_8
       try clear hcz13_9
       try clear hcz18_0
       try clear hcz18_1
       try clear hcz18_10
       try clear hcz18_11
       try clear hcz18_2
       try clear hcz18_3
       try clear hcz18_4
       try clear hcz18_5
       try clear hcz18_6
       try clear hcz18_7
       try clear hcz18_8
       try clear hcz18_9
       try clear hcz21_0
       try clear hcz21_1
       try clear hcz21_10
       try clear hcz21_11
       try clear hcz21_2
       try clear hcz21_3
       try clear hcz21_4
       try clear hcz21_5
       try clear hcz21_6
       try clear hcz21_7
       try clear hcz21_8
       try clear hcz21_9
       try clear hcz22_0
       try clear hcz22_1
       try clear hcz22_10
       try clear hcz22_11
       try clear hcz22_2
       try clear hcz22_3
       try clear hcz22_4
       try clear hcz22_5
       try clear hcz22_6
       try clear hcz22_7
       try clear hcz22_8
       try clear hcz22_9
       try clear hfz13_0
       try clear hfz13_1
       try clear hfz13_10
       try clear hfz13_11
       try clear hfz13_2
       try clear hfz13_3
       try clear hfz13_4
       try clear hfz13_5
       try clear hfz13_6
       try clear hfz13_7
       try clear hfz13_8
       try clear hfz13_9
       try clear hfz18_0
       try clear hfz18_1
       try clear hfz18_10
       try clear hfz18_11
       try clear hfz18_2
       try clear hfz18_3
       try clear hfz18_4
       try clear hfz18_5
       try clear hfz18_6
       try clear hfz18_7
       try clear hfz18_8
       try clear hfz18_9
       try clear hfz21_0
       try clear hfz21_1
       try clear hfz21_10
       try clear hfz21_11
       try clear hfz21_2
       try clear hfz21_3
       try clear hfz21_4
       try clear hfz21_5
       try clear hfz21_6
       try clear hfz21_7
       try clear hfz21_8
       try clear hfz21_9
       try clear hfz22_0
       try clear hfz22_1
       try clear hfz22_10
       try clear hfz22_11
       try clear hfz22_2
       try clear hfz22_3
       try clear hfz22_4
       try clear hfz22_5
       try clear hfz22_6
       try clear hfz22_7
       try clear hfz22_8
       try clear hfz22_9
       try clear p2
       obtain ⟨kq, x68_24, rfl, HA, HJ24, BK574, BK592, HB⟩ := hcut
       cases kq with
       | zero => exact absurd HA.out (by simp [magnetolaw04_FieldFrames.j1])
       | succ kj24 =>
        have H := HA.out
        clear HA
        simp only [magnetolaw04_FieldFrames.j1] at H
        by_cases c28 : x68_24 = true
        ·
         subst c28
         have H1 : (if t575 = true then (none) else (if t576 = 13 then ((magnetolaw04_awake.f kj24).bind fun t594 => (some t594)) else (none))) = some r := by rw [if_pos rfl] at H; exact H
         clear H
         have H := H1
         clear H1
         by_cases c29 : t575 = true
         ·
          subst c29
          have H1 : (none) = some r := by rw [if_pos rfl] at H; exact H
          clear H
          have H := H1
          clear H1
          exact absurd H (by simp)
         ·
          replace c29 := Bool.eq_false_iff.mpr c29
          subst c29
          have H1 : (if t576 = 13 then ((magnetolaw04_awake.f kj24).bind fun t594 => (some t594)) else (none)) = some r := by rw [if_neg (show ¬ (false = true) by decide)] at H; exact H
          clear H
          have H := H1
          clear H1
          by_cases c30 : t576 = 13
          ·
           rw [if_pos c30] at H
           have c30b0 : (t576 == 13) = true := beq_iff_eq.mpr c30
           have c30b1 : (t576 != 13) = false := bne_eq_false_iff_eq.mpr c30
           clear c30
           replace H := Option.bind_eq_some_iff.mp H
           obtain ⟨t594, A310, H⟩ := H
           replace H : (some t594) = some r := H
           have A31 := Aside0.mk A310
           clear A310
           obtain rfl := Option.some.inj H
           go_wp2_with (first | (go_at_call 19; (with_reducible refine (magnetolaw04_awake.calls kj24  t594 _ A31.out).mono ?_); rintro e w32 ⟨rfl, hb⟩; have n0_ := Aside0.mk (blk_below (g := gb574) (o := .cells #[.int .i64 t561, .bool t562, .bool t563, .int .i64 t564, .int .u8 t565, .int .u8 t566, .int .u8 t567, .int .u8 t568, .int .u8 t569, .int .u8 t570, .int .u8 t571, .int .u8 t572] 24 (0, 0)) (by (with_reducible repeat (first | refine blk_drewN ?_ _ | refine blk_drew ?_ | refine blk_alloc ?_ _)); exact BK574.out) hb); have n1_ := Aside0.mk (blk_below (g := gb592) (o := .cells #[.int .i64 t579, .bool t580, .bool t581, .int .i64 t582, .int .u8 t583, .int .u8 t584, .int .u8 t585, .int .u8 t586, .int .u8 t587, .int .u8 t588, .int .u8 t589, .int .u8 t590] 24 (0, 0)) (by (with_reducible repeat (first | refine blk_drewN ?_ _ | refine blk_drew ?_ | refine blk_alloc ?_ _)); exact BK592.out) hb); have n2_ := Aside0.mk (below_step (by repeat (first | (with_reducible first | exact HB.out | apply below_alloc | apply pw_below_drewN | apply below_drew1 | refine below_set ?_ GE574.out | refine below_set ?_ GE592.out) | exact HB.out)) hb); clear BK574; clear BK592; clear HB; have BK574 := n0_; have BK592 := n1_; have HB := n2_; clear n0_ n1_ n2_; (try clear hb); (try clear hb2); (try clear hk); (try clear hi)))
           go_ret
           exact ⟨by first | rfl | (simp [errW_none, errW_some] <;> rfl) | (simp [*, errW_none, errW_some] <;> rfl), by repeat (first | (with_reducible first | exact HB.out | apply below_alloc | apply pw_below_drewN | apply below_drew1 | refine below_set ?_ GE574.out | refine below_set ?_ GE592.out) | exact HB.out)⟩
          ·
           rw [if_neg c30] at H
           exact absurd H (by simp)
        ·
         replace c28 := Bool.eq_false_iff.mpr c28
         subst c28
         have H1 : (if 0 ≤ t593 then (if t593 ≤ (l0.length : Int) then ((magnetoref04_Sum.f kj24 (l0.take (t593 : Int).toNat)).bind fun t596 => (if t593 ≤ (wrap64 (t593 + 15)) then (if (wrap64 (t593 + 15)) ≤ (l0.length : Int) then ((magnetolaw04_ints.f kj24 t596 ((l0.take ((wrap64 (t593 + 15)) : Int).toNat).drop (t593 : Int).toNat)).bind fun t600 => (if (t575 == t600) = true then (if t576 = 0 then ((magnetolaw04_awake.f kj24).bind fun t601 => (some t601)) else (none)) else (none))) else (none)) else (none))) else (none)) else (none)) = some r := by rw [if_neg (show ¬ (false = true) by decide)] at H; exact H
         clear H
         have H := H1
         clear H1
         by_cases c33 : 0 ≤ t593
         ·
          rw [if_pos c33] at H
          have c33b0 := eq_true c33
          have c33b1 : decide (0 ≤ t593) = true := decide_eq_true c33
          clear c33
          by_cases c34 : t593 ≤ (l0.length : Int)
          ·
           rw [if_pos c34] at H
           have c34b0 := eq_true c34
           have c34b1 : decide (t593 ≤ (l0.length : Int)) = true := decide_eq_true c34
           clear c34
           replace H := Option.bind_eq_some_iff.mp H
           obtain ⟨t596, A350, H⟩ := H
           replace H : (if t593 ≤ (wrap64 (t593 + 15)) then (if (wrap64 (t593 + 15)) ≤ (l0.length : Int) then ((magnetolaw04_ints.f kj24 t596 ((l0.take ((wrap64 (t593 + 15)) : Int).toNat).drop (t593 : Int).toNat)).bind fun t600 => (if (t575 == t600) = true then (if t576 = 0 then ((magnetolaw04_awake.f kj24).bind fun t601 => (some t601)) else (none)) else (none))) else (none)) else (none)) = some r := H
           have A35 := Aside0.mk A350
           clear A350
           have c36b0 := eq_true (of_decide_eq_true (by first | (with_reducible assumption) | assumption) : 0 ≤ t593)
           by_cases c37 : t593 ≤ (wrap64 (t593 + 15))
           ·
            rw [if_pos c37] at H
            have c37b0 := eq_true c37
            have c37b1 : decide (t593 ≤ (wrap64 (t593 + 15))) = true := decide_eq_true c37
            by_cases c38 : (wrap64 (t593 + 15)) ≤ (l0.length : Int)
            ·
             rw [if_pos c38] at H
             have c38b0 := eq_true c38
             have c38b1 : decide ((wrap64 (t593 + 15)) ≤ (l0.length : Int)) = true := decide_eq_true c38
             replace H := Option.bind_eq_some_iff.mp H
             obtain ⟨t600, A390, H⟩ := H
             replace H : (if (t575 == t600) = true then (if t576 = 0 then ((magnetolaw04_awake.f kj24).bind fun t601 => (some t601)) else (none)) else (none)) = some r := H
             have A39 := Aside0.mk A390
             clear A390
             by_cases c40 : (t575 == t600) = true
             ·
              rw [if_pos c40] at H
              have c40b0 : (t575 == t600) = true := c40
              (try (have c40b1 : decide (t575 = t600) = true := by simpa using c40))
              (try (have c40b2 : (t575 == t600) = true := by simpa using c40))
              clear c40
              by_cases c41 : t576 = 0
              ·
               rw [if_pos c41] at H
               have c41b0 : (t576 == 0) = true := beq_iff_eq.mpr c41
               have c41b1 : (t576 != 0) = false := bne_eq_false_iff_eq.mpr c41
               clear c41
               replace H := Option.bind_eq_some_iff.mp H
               obtain ⟨t601, A420, H⟩ := H
               replace H : (some t601) = some r := H
               have A42 := Aside0.mk A420
               clear A420
               obtain rfl := Option.some.inj H
               try go_wp2
               have n0_ := Aside0.mk (blk_drew BK574.out)
               have n1_ := Aside0.mk (blk_drew BK592.out)
               have n2_ := Aside0.mk (below_drew1 HB.out)
               clear BK574
               clear BK592
               clear HB
               have BK574 := n0_
               have BK592 := n1_
               have HB := n2_
               clear n0_ n1_ n2_
               obtain ⟨i044, hi044, _, hsz44, _⟩ := info_parts info3
               obtain ⟨hcut44, hA44, hC44⟩ := print_take_of (P := Try.prog) (Value.int .i64) 0 25 3 .i64 Try.underlying25 hi044 hsz44 A0 c0 l0 t593 (of_decide_eq_true (by first | (with_reducible assumption) | assumption)) (of_decide_eq_true (by first | (with_reducible assumption) | assumption)) HC0.out
               have HR595 := Aside0.mk (Kd.C_of_reads (h1 := fun _ => rfl) (hA44 _ (Kd.reads_of_C HR0.out)))
               have HC595 := Aside0.mk hC44
               clear hA44 hC44 hi044 hsz44
               obtain ⟨i045, hi045, _, hsz45, _⟩ := info_parts info3
               obtain ⟨A45, hcut45, hA45, hC45⟩ := print_mid_of (P := Try.prog) (Value.int .i64) 0 25 3 .i64 .i64 Try.underlying25 hi045 hsz45 A0 c0 l0 t593 (wrap64 (t593 + 15)) (of_decide_eq_true (by first | (with_reducible assumption) | assumption)) (by first | omega | exact of_decide_eq_true (by first | (with_reducible assumption) | assumption)) (of_decide_eq_true (by first | (with_reducible assumption) | assumption)) HC0.out
               have HR599 := Aside0.mk (Kd.C_of_reads (h1 := fun _ => rfl) (hA45 _ (Kd.reads_of_C HR0.out)))
               have HC599 := Aside0.mk hC45
               clear hA45 hC45 hi045 hsz45
               refine start_ (n := 20) (S := fun w' => True) (ds := []) #[false, false, false, false, false, false, false, false, false, false, false, false, false, false, false, false, false, false, false, false] (by kernel_rfl) rfl rfl trivial (fun hHeld => ?_); refine with_tabW magnetolaw04_FieldFrames.tab13 magnetolaw04_FieldFrames.bits13 (fun HT_ HW_ => ?_)
               generalize wc.drew = w43 at BK574 BK592 HB HR595 HR599 hHeld ⊢
               refine pure_ (i := 0) (N := some 78) (v := ?_) (a' := ?_) #[true, false, false, false, false, false, false, false, false, false, false, false, false, false, false, false, false, false, false, false] rfl rfl (any_of HT_.out (by kernel_rfl)) (fun _ _ _ h => h) (Or.inl ⟨by rfl, ?_⟩) ?_ ?_
               rotate_left
               ·
                intro w'
                go_simp
                with_reducible rfl
               rotate_left
               ·
                simp only [Act.put, List.setIfInBounds_toArray, List.set_cons_zero, List.set_cons_succ, i64_w, i32_w]
                rfl
               refine pure_ (i := 1) (N := some 79) (v := ?_) (a' := ?_) #[true, true, false, false, false, false, false, false, false, false, false, false, false, false, false, false, false, false, false, false] rfl rfl (any_of HT_.out (by kernel_rfl)) (fun _ _ _ h => h) (Or.inl ⟨by rfl, ?_⟩) ?_ ?_
               rotate_left
               ·
                intro w'
                go_simp
                with_reducible rfl
               rotate_left
               ·
                simp only [Act.put, List.setIfInBounds_toArray, List.set_cons_zero, List.set_cons_succ, i64_w, i32_w]
                rfl
               refine pure_ (i := 2) (N := some 80) (v := ?_) (a' := ?_) #[true, true, true, false, false, false, false, false, false, false, false, false, false, false, false, false, false, false, false, false] rfl rfl (any_of HT_.out (by kernel_rfl)) (fun _ _ _ h => h) (Or.inl ⟨by rfl, ?_⟩) ?_ ?_
               rotate_left
               ·
                intro w'
                go_simp
                with_reducible rfl
               rotate_left
               ·
                simp only [Act.put, List.setIfInBounds_toArray, List.set_cons_zero, List.set_cons_succ, i64_w, i32_w]
                rfl
               refine pure_ (i := 3) (N := some 81) (v := ?_) (a' := ?_) #[true, true, true, true, false, false, false, false, false, false, false, false, false, false, false, false, false, false, false, false] rfl rfl (any_of HT_.out (by kernel_rfl)) (fun _ _ _ h => h) (Or.inl ⟨by rfl, ?_⟩) ?_ ?_
               rotate_left
               ·
                intro w'
                go_simp
                with_reducible rfl
               rotate_left
               ·
                simp only [Act.put, List.setIfInBounds_toArray, List.set_cons_zero, List.set_cons_succ, i64_w, i32_w]
                rfl
               refine pure_ (i := 5) (N := some 83) (v := ?_) (a' := ?_) #[true, true, true, true, false, true, false, false, false, false, false, false, false, false, false, false, false, false, false, false] rfl rfl (any_of HT_.out (by kernel_rfl)) (fun _ _ _ h => h) (Or.inl ⟨by rfl, ?_⟩) ?_ ?_
               rotate_left
               ·
                intro w'
                go_simp
                with_reducible rfl
               rotate_left
               ·
                simp only [Act.put, List.setIfInBounds_toArray, List.set_cons_zero, List.set_cons_succ, i64_w, i32_w]
                rfl
               refine pure_ (i := 6) (N := some 84) (v := ?_) (a' := ?_) #[true, true, true, true, false, true, true, false, false, false, false, false, false, false, false, false, false, false, false, false] rfl rfl (any_of HT_.out (by kernel_rfl)) (fun _ _ _ h => h) (Or.inl ⟨by rfl, ?_⟩) ?_ ?_
               rotate_left
               ·
                intro w'
                go_simp
                with_reducible rfl
               rotate_left
               ·
                simp only [Act.put, List.setIfInBounds_toArray, List.set_cons_zero, List.set_cons_succ, i64_w, i32_w]
                rfl
               refine pure_ (i := 7) (N := some 85) (v := ?_) (a' := ?_) #[true, true, true, true, false, true, true, true, false, false, false, false, false, false, false, false, false, false, false, false] rfl rfl (any_of HT_.out (by kernel_rfl)) (fun _ _ _ h => h) (Or.inl ⟨by rfl, ?_⟩) ?_ ?_
               rotate_left
               ·
                intro w'
                go_simp
                with_reducible rfl
               rotate_left
               ·
                simp only [Act.put, List.setIfInBounds_toArray, List.set_cons_zero, List.set_cons_succ, i64_w, i32_w]
                rfl
               refine pure_ (i := 8) (N := some 86) (v := ?_) (a' := ?_) #[true, true, true, true, false, true, true, true, true, false, false, false, false, false, false, false, false, false, false, false] rfl rfl (any_of HT_.out (by kernel_rfl)) (fun _ _ _ h => h) (Or.inl ⟨by rfl, ?_⟩) ?_ ?_
               rotate_left
               ·
                intro w'
                go_simp
                with_reducible rfl
               rotate_left
               ·
                simp only [Act.put, List.setIfInBounds_toArray, List.set_cons_zero, List.set_cons_succ, i64_w, i32_w]
                rfl
               refine pure_ (i := 9) (N := some 87) (v := ?_) (a' := ?_) #[true, true, true, true, false, true, true, true, true, true, false, false, false, false, false, false, false, false, false, false] rfl rfl (any_of HT_.out (by kernel_rfl)) (fun _ _ _ h => h) (Or.inl ⟨by rfl, ?_⟩) ?_ ?_
               rotate_left
               ·
                intro w'
                go_simp
                with_reducible rfl
               rotate_left
               ·
                simp only [Act.put, List.setIfInBounds_toArray, List.set_cons_zero, List.set_cons_succ, i64_w, i32_w]
                rfl
               refine one_ (i := 4) (N := some 82) #[true, true, true, true, true, true, true, true, true, true, false, false, false, false, false, false, false, false, false, false] rfl rfl (one_of HT_.out (by kernel_rfl)) (by decide) (fun K hK => ?_)
               refine goes_ Try.func32 (by kernel_rfl) rfl #[.slice A0 (l0.take (t593 : Int).toNat).length c0] (by rfl) rfl rfl (by (try simp only [List.map_toArray, List.map_cons, List.map_nil]); first | done | (rw [show (l0.take (t593 : Int).toNat).length = t593.toNat from (by rw [List.length_take]; have h_ : (t593 : Int) ≤ (l0.length : Int) := of_decide_eq_true (by first | (with_reducible assumption) | assumption); omega)] <;> rfl) | rfl | (simp only [List.length_drop, List.length_take]; rfl)) ?_
               with_reducible refine (magnetoref04_Sum.calls kj24 _ _ (l0.take (t593 : Int).toNat) t596 _ ?side1 ?side2 A35.out).mono ?_
               (case side1 => repeat (first | exact (Kd.C_below HR595.out HB.out) | (with_reducible refine Kd.C_alloc ?_ _) | (with_reducible refine Kd.C_drewN ?_ _) | (with_reducible refine Kd.C_drew ?_)))
               (case side2 => exact HC595.out)
               rintro e w46 ⟨v597, rfl, ho0, hb⟩
               refine ⟨_, rfl, ?_⟩
               have n0_ := Aside0.mk (Kd.R_lower ho0 (below_size (by repeat (first | (with_reducible first | exact HB.out | apply below_alloc | apply pw_below_drewN | apply below_drew1 | refine below_set ?_ GE574.out | refine below_set ?_ GE592.out) | exact HB.out))))
               have n1_ := Aside0.mk (blk_below (g := gb574) (o := .cells #[.int .i64 t561, .bool t562, .bool t563, .int .i64 t564, .int .u8 t565, .int .u8 t566, .int .u8 t567, .int .u8 t568, .int .u8 t569, .int .u8 t570, .int .u8 t571, .int .u8 t572] 24 (0, 0)) (by (with_reducible repeat (first | refine blk_drewN ?_ _ | refine blk_drew ?_ | refine blk_alloc ?_ _)); exact BK574.out) hb)
               have n2_ := Aside0.mk (blk_below (g := gb592) (o := .cells #[.int .i64 t579, .bool t580, .bool t581, .int .i64 t582, .int .u8 t583, .int .u8 t584, .int .u8 t585, .int .u8 t586, .int .u8 t587, .int .u8 t588, .int .u8 t589, .int .u8 t590] 24 (0, 0)) (by (with_reducible repeat (first | refine blk_drewN ?_ _ | refine blk_drew ?_ | refine blk_alloc ?_ _)); exact BK592.out) hb)
               have n3_ := Aside0.mk (below_step (by repeat (first | (with_reducible first | exact HB.out | apply below_alloc | apply pw_below_drewN | apply below_drew1 | refine below_set ?_ GE574.out | refine below_set ?_ GE592.out) | exact HB.out)) hb)
               clear BK574
               clear BK592
               clear HB
               have HO598 := n0_
               have BK574 := n1_
               have BK592 := n2_
               have HB := n3_
               clear n0_ n1_ n2_ n3_
               (try clear hb)
               (try clear hb2)
               (try clear hk)
               (try clear hi)
               (try clear ho0)
               obtain ⟨Ao47, co47, eo47⟩ := Kd.R_slice HO598.out
               (first | subst eo47 | (injection eo47 with f1_ f2_ f3_; have f4_ := f1_.symm; have f5_ := f3_.symm; clear f1_ f2_ f3_; subst f4_; subst f5_))
               refine hK.out _ _ trivial (fun hHeld => ?_)
               clear hK K
               refine norm_ (a' := ?_) ?_ ?_
               rotate_left
               ·
                show Act.put _ (some 82) _ = _
                simp only [Act.put, List.setIfInBounds_toArray, List.set_cons_zero, List.set_cons_succ, i64_w, i32_w]
                rfl
               refine one_ (i := 10) (N := some 88) #[true, true, true, true, true, true, true, true, true, true, true, false, false, false, false, false, false, false, false, false] rfl rfl (one_of HT_.out (by kernel_rfl)) (by decide) (fun K hK => ?_)
               refine goes_ Try.func20 (by kernel_rfl) rfl #[.slice Ao47 t596.length co47, .slice A45 ((l0.take ((wrap64 (t593 + 15)) : Int).toNat).drop (t593 : Int).toNat).length (c0 - t593.toNat)] (by rfl) rfl rfl (by (try simp only [List.map_toArray, List.map_cons, List.map_nil]); first | done | (rw [show ((l0.take ((wrap64 (t593 + 15)) : Int).toNat).drop (t593 : Int).toNat).length = ((wrap64 (t593 + 15)).toNat - t593.toNat) from (by rw [List.length_drop, List.length_take]; have h_ : ((wrap64 (t593 + 15)) : Int) ≤ (l0.length : Int) := of_decide_eq_true (by first | (with_reducible assumption) | assumption); omega)] <;> rfl) | rfl | (simp only [List.length_drop, List.length_take]; rfl)) ?_
               with_reducible refine (magnetolaw04_ints.calls kj24 _ _ t596 _ _ ((l0.take ((wrap64 (t593 + 15)) : Int).toNat).drop (t593 : Int).toNat) t600 _ ?side1 ?side2 ?side3 ?side4 A39.out).mono ?_
               (case side1 => repeat (first | exact (Kd.R_reads' HO598.out).2.2 | (with_reducible refine Kd.C_alloc ?_ _) | (with_reducible refine Kd.C_drewN ?_ _) | (with_reducible refine Kd.C_drew ?_)))
               (case side2 => exact (Kd.R_reads' HO598.out).2.1)
               (case side3 => repeat (first | exact (Kd.C_below HR599.out HB.out) | (with_reducible refine Kd.C_alloc ?_ _) | (with_reducible refine Kd.C_drewN ?_ _) | (with_reducible refine Kd.C_drew ?_)))
               (case side4 => exact HC599.out)
               rintro e w' ⟨rfl, ⟨nd, rfl⟩⟩
               refine ⟨_, rfl, ?_⟩
               refine hK.out _ _ trivial (fun hHeld => ?_)
               clear hK K
               refine norm_ (a' := ?_) ?_ ?_
               rotate_left
               ·
                show Act.put _ (some 88) _ = _
                simp only [Act.put, List.setIfInBounds_toArray, List.set_cons_zero, List.set_cons_succ, i64_w, i32_w]
                rfl
               refine pure_ (i := 11) (N := some 89) (v := ?_) (a' := ?_) #[true, true, true, true, true, true, true, true, true, true, true, true, false, false, false, false, false, false, false, false] rfl rfl (any_of HT_.out (by kernel_rfl)) (fun _ _ _ h => h) (Or.inl ⟨by rfl, ?_⟩) ?_ ?_
               rotate_left
               ·
                intro w'
                go_simp
                with_reducible rfl
               rotate_left
               ·
                simp only [Act.put, List.setIfInBounds_toArray, List.set_cons_zero, List.set_cons_succ, i64_w, i32_w]
                rfl
               refine pure_ (i := 12) (N := some 90) (v := ?_) (a' := ?_) #[true, true, true, true, true, true, true, true, true, true, true, true, true, false, false, false, false, false, false, false] rfl rfl (any_of HT_.out (by kernel_rfl)) (fun _ _ _ h => h) (Or.inl ⟨by rfl, ?_⟩) ?_ ?_
               rotate_left
               ·
                intro w'
                go_simp
                with_reducible rfl
               rotate_left
               ·
                simp only [Act.put, List.setIfInBounds_toArray, List.set_cons_zero, List.set_cons_succ, i64_w, i32_w]
                rfl
               refine pure_ (i := 13) (N := some 91) (v := ?_) (a' := ?_) #[true, true, true, true, true, true, true, true, true, true, true, true, true, true, false, false, false, false, false, false] rfl rfl (any_of HT_.out (by kernel_rfl)) (fun _ _ _ h => h) (Or.inl ⟨by rfl, ?_⟩) ?_ ?_
               rotate_left
               ·
                intro w'
                go_simp
                with_reducible rfl
               rotate_left
               ·
                simp only [Act.put, List.setIfInBounds_toArray, List.set_cons_zero, List.set_cons_succ, i64_w, i32_w]
                rfl
               refine pure_ (i := 14) (N := some 92) (v := ?_) (a' := ?_) #[true, true, true, true, true, true, true, true, true, true, true, true, true, true, true, false, false, false, false, false] rfl rfl (any_of HT_.out (by kernel_rfl)) (fun _ _ _ h => h) (Or.inl ⟨by rfl, ?_⟩) ?_ ?_
               rotate_left
               ·
                intro w'
                go_simp
                with_reducible rfl
               rotate_left
               ·
                simp only [Act.put, List.setIfInBounds_toArray, List.set_cons_zero, List.set_cons_succ, i64_w, i32_w]
                rfl
               refine pure_ (i := 15) (N := some 93) (v := ?_) (a' := ?_) #[true, true, true, true, true, true, true, true, true, true, true, true, true, true, true, true, false, false, false, false] rfl rfl (any_of HT_.out (by kernel_rfl)) (fun _ _ _ h => h) (Or.inl ⟨by rfl, ?_⟩) ?_ ?_
               rotate_left
               ·
                intro w'
                go_simp
                with_reducible rfl
               rotate_left
               ·
                simp only [Act.put, List.setIfInBounds_toArray, List.set_cons_zero, List.set_cons_succ, i64_w, i32_w]
                rfl
               refine pure_ (i := 16) (N := some 94) (v := ?_) (a' := ?_) #[true, true, true, true, true, true, true, true, true, true, true, true, true, true, true, true, true, false, false, false] rfl rfl (any_of HT_.out (by kernel_rfl)) (fun _ _ _ h => h) (Or.inl ⟨by rfl, ?_⟩) ?_ ?_
               rotate_left
               ·
                intro w'
                go_simp
                with_reducible rfl
               rotate_left
               ·
                simp only [Act.put, List.setIfInBounds_toArray, List.set_cons_zero, List.set_cons_succ, i64_w, i32_w]
                rfl
               refine one_ (i := 17) (N := some 95) #[true, true, true, true, true, true, true, true, true, true, true, true, true, true, true, true, true, true, false, false] rfl rfl (one_of HT_.out (by kernel_rfl)) (by decide) (fun K hK => ?_)
               refine goes_ Try.func19 (by kernel_rfl) rfl #[] (by rfl) rfl rfl (by (try simp only [List.map_toArray, List.map_cons, List.map_nil]); first | done | rfl | (simp only [List.length_drop, List.length_take]; rfl)) ?_
               with_reducible refine (magnetolaw04_awake.calls kj24  t601 _ A42.out).mono ?_
               rintro e w48 ⟨rfl, hb⟩
               refine ⟨_, rfl, ?_⟩
               have n0_ := Aside0.mk (Kd.R_below (by (with_reducible repeat (first | apply Kd.R_alloc | apply Kd.R_drewN | apply Kd.R_drew)); exact HO598.out) hb)
               have n1_ := Aside0.mk (blk_below (g := gb574) (o := .cells #[.int .i64 t561, .bool t562, .bool t563, .int .i64 t564, .int .u8 t565, .int .u8 t566, .int .u8 t567, .int .u8 t568, .int .u8 t569, .int .u8 t570, .int .u8 t571, .int .u8 t572] 24 (0, 0)) (by (with_reducible repeat (first | refine blk_drewN ?_ _ | refine blk_drew ?_ | refine blk_alloc ?_ _)); exact BK574.out) hb)
               have n2_ := Aside0.mk (blk_below (g := gb592) (o := .cells #[.int .i64 t579, .bool t580, .bool t581, .int .i64 t582, .int .u8 t583, .int .u8 t584, .int .u8 t585, .int .u8 t586, .int .u8 t587, .int .u8 t588, .int .u8 t589, .int .u8 t590] 24 (0, 0)) (by (with_reducible repeat (first | refine blk_drewN ?_ _ | refine blk_drew ?_ | refine blk_alloc ?_ _)); exact BK592.out) hb)
               have n3_ := Aside0.mk (below_step (by repeat (first | (with_reducible first | exact HB.out | apply below_alloc | apply pw_below_drewN | apply below_drew1 | refine below_set ?_ GE574.out | refine below_set ?_ GE592.out) | exact HB.out)) hb)
               clear HO598
               clear BK574
               clear BK592
               clear HB
               have HO598 := n0_
               have BK574 := n1_
               have BK592 := n2_
               have HB := n3_
               clear n0_ n1_ n2_ n3_
               (try clear hb)
               (try clear hb2)
               (try clear hk)
               (try clear hi)
               refine hK.out _ _ trivial (fun hHeld => ?_)
               clear hK K
               refine norm_ (a' := ?_) ?_ ?_
               rotate_left
               ·
                show Act.put _ (some 95) _ = _
                simp only [Act.put, List.setIfInBounds_toArray, List.set_cons_zero, List.set_cons_succ, i64_w, i32_w]
                rfl
               refine pure_ (i := 18) (N := some 96) (v := ?_) (a' := ?_) #[true, true, true, true, true, true, true, true, true, true, true, true, true, true, true, true, true, true, true, false] rfl rfl (any_of HT_.out (by kernel_rfl)) (fun _ _ _ h => h) (Or.inl ⟨by rfl, ?_⟩) ?_ ?_
               rotate_left
               ·
                intro w'
                go_simp
                with_reducible rfl
               rotate_left
               ·
                simp only [Act.put, List.setIfInBounds_toArray, List.set_cons_zero, List.set_cons_succ, i64_w, i32_w]
                rfl
               refine pure_ (i := 19) (N := some 2) (v := ?_) (a' := ?_) #[true, true, true, true, true, true, true, true, true, true, true, true, true, true, true, true, true, true, true, true] rfl rfl (any_of HT_.out (by kernel_rfl)) (fun _ _ _ h => h) (Or.inl ⟨by rfl, ?_⟩) ?_ ?_
               rotate_left
               ·
                intro w'
                go_simp
                with_reducible rfl
               rotate_left
               ·
                simp only [Act.put, List.setIfInBounds_toArray, List.set_cons_zero, List.set_cons_succ, i64_w, i32_w]
                rfl
               refine done_ (done_of HT_.out (by kernel_rfl)) ?_
               try go_wp2
               go_ret
               exact ⟨by first | rfl | (simp [errW_none, errW_some] <;> rfl) | (simp [*, errW_none, errW_some] <;> rfl), by repeat (first | (with_reducible first | exact HB.out | apply below_alloc | apply pw_below_drewN | apply below_drew1 | refine below_set ?_ GE574.out | refine below_set ?_ GE592.out) | exact HB.out)⟩
              ·
               rw [if_neg c41] at H
               exact absurd H (by simp)
             ·
              rw [if_neg c40] at H
              exact absurd H (by simp)
            ·
             rw [if_neg c38] at H
             exact absurd H (by simp)
           ·
            rw [if_neg c37] at H
            exact absurd H (by simp)
          ·
           rw [if_neg c34] at H
           exact absurd H (by simp)
         ·
          rw [if_neg c33] at H
          exact absurd H (by simp)
  ·
   replace c8 := Bool.eq_false_iff.mpr c8
   subst c8
   have H1 : (if (t561 == 0 && (!t562 && (!t563 && (t564 == 0 && ((t565 == 0 && (t566 == 0 && (t567 == 0 && (t568 == 0 && (t569 == 0 && (t570 == 0 && (t571 == 0 && (t572 == 0))))))))))))) = true then (if t573 = 10 then (if t575 = true then (none) else (if t576 = 10 then ((magnetolaw04_awake.f k).bind fun t578 => (some t578)) else (none))) else (none)) else (none)) = some r := by rw [if_neg (show ¬ (false = true) by decide)] at H; exact H
   clear H
   have H := H1
   clear H1
   by_cases c49 : (t561 == 0 && (!t562 && (!t563 && (t564 == 0 && ((t565 == 0 && (t566 == 0 && (t567 == 0 && (t568 == 0 && (t569 == 0 && (t570 == 0 && (t571 == 0 && (t572 == 0))))))))))))) = true
   ·
    rw [if_pos c49] at H
    have c49b0 : (t561 == 0 && (!t562 && (!t563 && (t564 == 0 && ((t565 == 0 && (t566 == 0 && (t567 == 0 && (t568 == 0 && (t569 == 0 && (t570 == 0 && (t571 == 0 && (t572 == 0))))))))))))) = true := c49
    (try (have c49b1 : decide (t561 = 0 && (!t562 && (!t563 && (t564 == 0 && ((t565 == 0 && (t566 == 0 && (t567 == 0 && (t568 == 0 && (t569 == 0 && (t570 == 0 && (t571 == 0 && (t572 == 0))))))))))))) = true := by simpa using c49))
    (try (have c49b2 : (t561 == 0 && (!t562 && (!t563 && (t564 == 0 && ((t565 == 0 && (t566 == 0 && (t567 == 0 && (t568 == 0 && (t569 == 0 && (t570 == 0 && (t571 == 0 && (t572 == 0))))))))))))) = true := by simpa using c49))
    clear c49
    by_cases c50 : t573 = 10
    ·
     rw [if_pos c50] at H
     have c50b0 : (t573 == 10) = true := beq_iff_eq.mpr c50
     have c50b1 : (t573 != 10) = false := bne_eq_false_iff_eq.mpr c50
     clear c50
     by_cases c51 : t575 = true
     ·
      subst c51
      have H1 : (none) = some r := by rw [if_pos rfl] at H; exact H
      clear H
      have H := H1
      clear H1
      exact absurd H (by simp)
     ·
      replace c51 := Bool.eq_false_iff.mpr c51
      subst c51
      have H1 : (if t576 = 10 then ((magnetolaw04_awake.f k).bind fun t578 => (some t578)) else (none)) = some r := by rw [if_neg (show ¬ (false = true) by decide)] at H; exact H
      clear H
      have H := H1
      clear H1
      by_cases c52 : t576 = 10
      ·
       rw [if_pos c52] at H
       have c52b0 : (t576 == 10) = true := beq_iff_eq.mpr c52
       have c52b1 : (t576 != 10) = false := bne_eq_false_iff_eq.mpr c52
       clear c52
       replace H := Option.bind_eq_some_iff.mp H
       obtain ⟨t578, A530, H⟩ := H
       replace H : (some t578) = some r := H
       have A53 := Aside0.mk A530
       clear A530
       obtain rfl := Option.some.inj H
       go_enter Try.func7, Try.ntmps7
       go_wp2_with (first | ((with_reducible refine gate_callee (f := 29) rfl ?_); refine goesL_ (some 16) rfl rfl Try.func29 (by kernel_rfl) rfl #[.slice A0 l0.length c0] rfl (by (try simp only [List.map_toArray, List.map_cons, List.map_nil]); first | done | rfl | (simp only [List.length_drop, List.length_take]; rfl)) ?_; (with_reducible refine (field_Frame.calls k _ _ l0 t561 t562 t563 t564 t565 t566 t567 t568 t569 t570 t571 t572 t573 _ ?side1 ?side2 A5.out).mono ?_); (case side1 => repeat (first | exact HR0.out | (with_reducible refine Kd.C_alloc ?_ _) | (with_reducible refine Kd.C_drewN ?_ _) | (with_reducible refine Kd.C_drew ?_))); (case side2 => exact HC0.out); rintro e w54 ⟨rfl, hb⟩; refine ⟨_, rfl, ?_⟩; have n0_ := Aside0.mk (below_step (by repeat (first | (with_reducible first | exact HB.out | apply below_alloc | apply pw_below_drewN | apply below_drew1) | exact HB.out)) hb); clear HB; have HB := n0_; clear n0_; (try clear hb); (try clear hb2); (try clear hk); (try clear hi)) | ((with_reducible refine gate_dst (N := 3) rfl ?_); (try (refine gate_guard (by rfl) ?_; dsimp only)); refine box_event ?hg (N := 3) ?hd (cs := #[.int .i64 0, .bool false, .bool false, .int .i64 0, .int .u8 0, .int .u8 0, .int .u8 0, .int .u8 0, .int .u8 0, .int .u8 0, .int .u8 0, .int .u8 0]) (t := 24) ?hr ?_; (case hd => rfl); (case hg => rfl); (case hr => first | (go_simp; done) | (go_simp; rfl)); intro gb574 hg w55 hbox hb; have n0_ := Aside0.mk (below_step (by repeat (first | (with_reducible first | exact HB.out | apply below_alloc | apply pw_below_drewN | apply below_drew1) | exact HB.out)) hb); have n1_ := Aside0.mk (hbox); have n2_ := Aside0.mk ((by rw [hg]; exact (below_size (by repeat (first | (with_reducible first | exact HB.out | apply below_alloc | apply pw_below_drewN | apply below_drew1) | exact HB.out))) : w.heap.size ≤ gb574)); have n3_ := Aside0.mk ((by rw [hg]; exact (below_size (by repeat (first | (with_reducible first | exact HB.out | apply below_alloc | apply pw_below_drewN | apply below_drew1) | exact HB.out))) : w.heap.size ≤ gb574)); clear HB; have HB := n0_; have BK574 := n1_; have GW574 := n2_; have GE574 := n3_; clear n0_ n1_ n2_ n3_; clear hb hbox hg; have hcz56_0 : w55.cell? ⟨gb574, 0, none⟩ = some (.int .i64 0) := (blk_cell BK574.out 0).trans rfl; have hcz56_1 : w55.cell? ⟨gb574, 1, none⟩ = some (.bool false) := (blk_cell BK574.out 1).trans rfl; have hcz56_2 : w55.cell? ⟨gb574, 2, none⟩ = some (.bool false) := (blk_cell BK574.out 2).trans rfl; have hcz56_3 : w55.cell? ⟨gb574, 3, none⟩ = some (.int .i64 0) := (blk_cell BK574.out 3).trans rfl; have hcz56_4 : w55.cell? ⟨gb574, 4, none⟩ = some (.int .u8 0) := (blk_cell BK574.out 4).trans rfl; have hcz56_5 : w55.cell? ⟨gb574, 5, none⟩ = some (.int .u8 0) := (blk_cell BK574.out 5).trans rfl; have hcz56_6 : w55.cell? ⟨gb574, 6, none⟩ = some (.int .u8 0) := (blk_cell BK574.out 6).trans rfl; have hcz56_7 : w55.cell? ⟨gb574, 7, none⟩ = some (.int .u8 0) := (blk_cell BK574.out 7).trans rfl; have hcz56_8 : w55.cell? ⟨gb574, 8, none⟩ = some (.int .u8 0) := (blk_cell BK574.out 8).trans rfl; have hcz56_9 : w55.cell? ⟨gb574, 9, none⟩ = some (.int .u8 0) := (blk_cell BK574.out 9).trans rfl; have hcz56_10 : w55.cell? ⟨gb574, 10, none⟩ = some (.int .u8 0) := (blk_cell BK574.out 10).trans rfl; have hcz56_11 : w55.cell? ⟨gb574, 11, none⟩ = some (.int .u8 0) := (blk_cell BK574.out 11).trans rfl; have hfz56_0 := blk_frozen BK574.out 0; have hfz56_1 := blk_frozen BK574.out 1; have hfz56_2 := blk_frozen BK574.out 2; have hfz56_3 := blk_frozen BK574.out 3; have hfz56_4 := blk_frozen BK574.out 4; have hfz56_5 := blk_frozen BK574.out 5; have hfz56_6 := blk_frozen BK574.out 6; have hfz56_7 := blk_frozen BK574.out 7; have hfz56_8 := blk_frozen BK574.out 8; have hfz56_9 := blk_frozen BK574.out 9; have hfz56_10 := blk_frozen BK574.out 10; have hfz56_11 := blk_frozen BK574.out 11) | ((with_reducible refine gate_callee (f := 30) rfl ?_); refine goesL_ (some 21) rfl rfl Try.func30 (by kernel_rfl) rfl #[.slice A0 l0.length c0] rfl (by (try simp only [List.map_toArray, List.map_cons, List.map_nil]); first | done | rfl | (simp only [List.length_drop, List.length_take]; rfl)) ?_; (with_reducible refine (field_Right.calls k _ _ l0 false t576 _ ?side1 ?side2 A6.out).mono ?_); (case side1 => exact Kd.C_below HR0.out (by repeat (first | (with_reducible first | exact HB.out | apply below_alloc | apply pw_below_drewN | apply below_drew1 | refine below_set ?_ GE574.out) | exact HB.out))); (case side2 => exact HC0.out); rintro e w57 ⟨rfl, hb⟩; refine ⟨_, rfl, ?_⟩; have n0_ := Aside0.mk (blk_below (g := gb574) (o := .cells #[.int .i64 t561, .bool t562, .bool t563, .int .i64 t564, .int .u8 t565, .int .u8 t566, .int .u8 t567, .int .u8 t568, .int .u8 t569, .int .u8 t570, .int .u8 t571, .int .u8 t572] 24 (0, 0)) (by (with_reducible repeat (first | refine blk_drewN ?_ _ | refine blk_drew ?_ | refine blk_alloc ?_ _)); refine blk_put (cs := #[.int .i64 t561, .bool t562, .bool t563, .int .i64 t564, .int .u8 t565, .int .u8 t566, .int .u8 t567, .int .u8 t568, .int .u8 t569, .int .u8 t570, .int .u8 t571, .int .u8 0]) ?_ 11 _ rfl; (with_reducible repeat (first | refine blk_drewN ?_ _ | refine blk_drew ?_ | refine blk_alloc ?_ _)); refine blk_put (cs := #[.int .i64 t561, .bool t562, .bool t563, .int .i64 t564, .int .u8 t565, .int .u8 t566, .int .u8 t567, .int .u8 t568, .int .u8 t569, .int .u8 t570, .int .u8 0, .int .u8 0]) ?_ 10 _ rfl; (with_reducible repeat (first | refine blk_drewN ?_ _ | refine blk_drew ?_ | refine blk_alloc ?_ _)); refine blk_put (cs := #[.int .i64 t561, .bool t562, .bool t563, .int .i64 t564, .int .u8 t565, .int .u8 t566, .int .u8 t567, .int .u8 t568, .int .u8 t569, .int .u8 0, .int .u8 0, .int .u8 0]) ?_ 9 _ rfl; (with_reducible repeat (first | refine blk_drewN ?_ _ | refine blk_drew ?_ | refine blk_alloc ?_ _)); refine blk_put (cs := #[.int .i64 t561, .bool t562, .bool t563, .int .i64 t564, .int .u8 t565, .int .u8 t566, .int .u8 t567, .int .u8 t568, .int .u8 0, .int .u8 0, .int .u8 0, .int .u8 0]) ?_ 8 _ rfl; (with_reducible repeat (first | refine blk_drewN ?_ _ | refine blk_drew ?_ | refine blk_alloc ?_ _)); refine blk_put (cs := #[.int .i64 t561, .bool t562, .bool t563, .int .i64 t564, .int .u8 t565, .int .u8 t566, .int .u8 t567, .int .u8 0, .int .u8 0, .int .u8 0, .int .u8 0, .int .u8 0]) ?_ 7 _ rfl; (with_reducible repeat (first | refine blk_drewN ?_ _ | refine blk_drew ?_ | refine blk_alloc ?_ _)); refine blk_put (cs := #[.int .i64 t561, .bool t562, .bool t563, .int .i64 t564, .int .u8 t565, .int .u8 t566, .int .u8 0, .int .u8 0, .int .u8 0, .int .u8 0, .int .u8 0, .int .u8 0]) ?_ 6 _ rfl; (with_reducible repeat (first | refine blk_drewN ?_ _ | refine blk_drew ?_ | refine blk_alloc ?_ _)); refine blk_put (cs := #[.int .i64 t561, .bool t562, .bool t563, .int .i64 t564, .int .u8 t565, .int .u8 0, .int .u8 0, .int .u8 0, .int .u8 0, .int .u8 0, .int .u8 0, .int .u8 0]) ?_ 5 _ rfl; (with_reducible repeat (first | refine blk_drewN ?_ _ | refine blk_drew ?_ | refine blk_alloc ?_ _)); refine blk_put (cs := #[.int .i64 t561, .bool t562, .bool t563, .int .i64 t564, .int .u8 0, .int .u8 0, .int .u8 0, .int .u8 0, .int .u8 0, .int .u8 0, .int .u8 0, .int .u8 0]) ?_ 4 _ rfl; (with_reducible repeat (first | refine blk_drewN ?_ _ | refine blk_drew ?_ | refine blk_alloc ?_ _)); refine blk_put (cs := #[.int .i64 t561, .bool t562, .bool t563, .int .i64 0, .int .u8 0, .int .u8 0, .int .u8 0, .int .u8 0, .int .u8 0, .int .u8 0, .int .u8 0, .int .u8 0]) ?_ 3 _ rfl; (with_reducible repeat (first | refine blk_drewN ?_ _ | refine blk_drew ?_ | refine blk_alloc ?_ _)); refine blk_put (cs := #[.int .i64 t561, .bool t562, .bool false, .int .i64 0, .int .u8 0, .int .u8 0, .int .u8 0, .int .u8 0, .int .u8 0, .int .u8 0, .int .u8 0, .int .u8 0]) ?_ 2 _ rfl; (with_reducible repeat (first | refine blk_drewN ?_ _ | refine blk_drew ?_ | refine blk_alloc ?_ _)); refine blk_put (cs := #[.int .i64 t561, .bool false, .bool false, .int .i64 0, .int .u8 0, .int .u8 0, .int .u8 0, .int .u8 0, .int .u8 0, .int .u8 0, .int .u8 0, .int .u8 0]) ?_ 1 _ rfl; (with_reducible repeat (first | refine blk_drewN ?_ _ | refine blk_drew ?_ | refine blk_alloc ?_ _)); refine blk_put (cs := #[.int .i64 0, .bool false, .bool false, .int .i64 0, .int .u8 0, .int .u8 0, .int .u8 0, .int .u8 0, .int .u8 0, .int .u8 0, .int .u8 0, .int .u8 0]) ?_ 0 _ rfl; (with_reducible repeat (first | refine blk_drewN ?_ _ | refine blk_drew ?_ | refine blk_alloc ?_ _)); exact BK574.out) hb); have n1_ := Aside0.mk (below_step (by repeat (first | (with_reducible first | exact HB.out | apply below_alloc | apply pw_below_drewN | apply below_drew1 | refine below_set ?_ GE574.out) | exact HB.out)) hb); clear BK574; clear HB; have BK574 := n0_; have HB := n1_; clear n0_ n1_; (try clear hb); (try clear hb2); (try clear hk); (try clear hi)) | ((with_reducible refine gate_callee (f := 25) rfl ?_); refine goesL_ (some 25) rfl rfl Try.func25 (by kernel_rfl) rfl #[.slice A0 l0.length c0] rfl (by (try simp only [List.map_toArray, List.map_cons, List.map_nil]); first | done | rfl | (simp only [List.length_drop, List.length_take]; rfl)) ?_; (with_reducible refine (magnetolaw04_levels.calls k _ _ l0 false _ ?side1 ?side2 A7.out).mono ?_); (case side1 => repeat (first | exact (Kd.C_below HR0.out HB.out) | (with_reducible refine Kd.C_alloc ?_ _) | (with_reducible refine Kd.C_drewN ?_ _) | (with_reducible refine Kd.C_drew ?_))); (case side2 => exact HC0.out); rintro e w' ⟨rfl, ⟨nd, rfl⟩⟩; refine ⟨_, rfl, ?_⟩; have hcz58_0 : w57.cell? ⟨gb574, 0, none⟩ = some (.int .i64 t561) := (blk_cell BK574.out 0).trans rfl; have hcz58_1 : w57.cell? ⟨gb574, 1, none⟩ = some (.bool t562) := (blk_cell BK574.out 1).trans rfl; have hcz58_2 : w57.cell? ⟨gb574, 2, none⟩ = some (.bool t563) := (blk_cell BK574.out 2).trans rfl; have hcz58_3 : w57.cell? ⟨gb574, 3, none⟩ = some (.int .i64 t564) := (blk_cell BK574.out 3).trans rfl; have hcz58_4 : w57.cell? ⟨gb574, 4, none⟩ = some (.int .u8 t565) := (blk_cell BK574.out 4).trans rfl; have hcz58_5 : w57.cell? ⟨gb574, 5, none⟩ = some (.int .u8 t566) := (blk_cell BK574.out 5).trans rfl; have hcz58_6 : w57.cell? ⟨gb574, 6, none⟩ = some (.int .u8 t567) := (blk_cell BK574.out 6).trans rfl; have hcz58_7 : w57.cell? ⟨gb574, 7, none⟩ = some (.int .u8 t568) := (blk_cell BK574.out 7).trans rfl; have hcz58_8 : w57.cell? ⟨gb574, 8, none⟩ = some (.int .u8 t569) := (blk_cell BK574.out 8).trans rfl; have hcz58_9 : w57.cell? ⟨gb574, 9, none⟩ = some (.int .u8 t570) := (blk_cell BK574.out 9).trans rfl; have hcz58_10 : w57.cell? ⟨gb574, 10, none⟩ = some (.int .u8 t571) := (blk_cell BK574.out 10).trans rfl; have hcz58_11 : w57.cell? ⟨gb574, 11, none⟩ = some (.int .u8 t572) := (blk_cell BK574.out 11).trans rfl; have hfz58_0 := blk_frozen BK574.out 0; have hfz58_1 := blk_frozen BK574.out 1; have hfz58_2 := blk_frozen BK574.out 2; have hfz58_3 := blk_frozen BK574.out 3; have hfz58_4 := blk_frozen BK574.out 4; have hfz58_5 := blk_frozen BK574.out 5; have hfz58_6 := blk_frozen BK574.out 6; have hfz58_7 := blk_frozen BK574.out 7; have hfz58_8 := blk_frozen BK574.out 8; have hfz58_9 := blk_frozen BK574.out 9; have hfz58_10 := blk_frozen BK574.out 10; have hfz58_11 := blk_frozen BK574.out 11) | (go_at_call 19; (with_reducible refine (magnetolaw04_awake.calls k  t578 _ A53.out).mono ?_); rintro e w59 ⟨rfl, hb⟩; have n0_ := Aside0.mk (blk_below (g := gb574) (o := .cells #[.int .i64 t561, .bool t562, .bool t563, .int .i64 t564, .int .u8 t565, .int .u8 t566, .int .u8 t567, .int .u8 t568, .int .u8 t569, .int .u8 t570, .int .u8 t571, .int .u8 t572] 24 (0, 0)) (by (with_reducible repeat (first | refine blk_drewN ?_ _ | refine blk_drew ?_ | refine blk_alloc ?_ _)); exact BK574.out) hb); have n1_ := Aside0.mk (below_step (by repeat (first | (with_reducible first | exact HB.out | apply below_alloc | apply pw_below_drewN | apply below_drew1 | refine below_set ?_ GE574.out) | exact HB.out)) hb); clear BK574; clear HB; have BK574 := n0_; have HB := n1_; clear n0_ n1_; (try clear hb); (try clear hb2); (try clear hk); (try clear hi)))
       go_ret
       exact ⟨by first | rfl | (simp [errW_none, errW_some] <;> rfl) | (simp [*, errW_none, errW_some] <;> rfl), by repeat (first | (with_reducible first | exact HB.out | apply below_alloc | apply pw_below_drewN | apply below_drew1 | refine below_set ?_ GE574.out) | exact HB.out)⟩
      ·
       rw [if_neg c52] at H
       exact absurd H (by simp)
    ·
     rw [if_neg c50] at H
     exact absurd H (by simp)
   ·
    rw [if_neg c49] at H
    exact absurd H (by simp)

/-- THE ONE PURE STATEMENT of magnetolaw04_FieldFrames: yours. -/
def magnetolaw04_FieldFrames.Pure : Prop := ∀ (l0 : List Int), l0.length ≤ maxLen → l0.length * 8 ≤ 140737488351232 → (∀ x ∈ l0, (Lit.int .i64 x).wf = true) → ∃ k, magnetolaw04_FieldFrames.f k l0 = some true
theorem magnetolaw04_FieldFrames.walk (P : magnetolaw04_FieldFrames.Pure) (a0 : Option Addr) (len0 cap0 : Nat) (z0 : List Int) (w : World) (w0 : (a0 = none ∧ len0 = 0 ∧ cap0 = 0 ∧ z0 = []) ∨ ∃ x, a0 = some x ∧ len0 ≤ cap0 ∧ cap0 ≤ maxLen ∧ z0.length = cap0 ∧ (∀ i, i < z0.length → w.cell? (x.add i) = some (.int .i64 (z0.getD i 0))) ∧ ∀ n ∈ z0, (Lit.int .i64 n).wf = true) (y0 : len0 * 8 ≤ 140737488351232) :
  Calls Try.prog 7 #[.slice a0 len0 cap0] w fun e w' => e = .returned (.bool true) ∧ Below w.heap.size w w' := by
 obtain ⟨l0, rfl, hr0, hm0, hw0, hc0⟩ := ReadsInt.ofRowC w0
 obtain ⟨k, h⟩ := P l0 hm0 y0 hw0
 refine (magnetolaw04_FieldFrames.calls k _ _ l0 true w (Kd.C_of_reads (d := (0 : Int)) (h1 := fun _ => rfl) hr0) hc0 h).mono ?_
 rintro e w' ⟨rfl, hd⟩
 exact ⟨rfl, hd⟩

end Go.Proofs.Ytakemodmdhglnaa.PA
