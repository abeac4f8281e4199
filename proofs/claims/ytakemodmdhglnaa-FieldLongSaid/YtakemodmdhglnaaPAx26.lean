/- Functions of the program, in plain Lean, and their walks (printed; half the indent). Conditions: none. -/
-- PRINTED by print.py (a twelfth state) out of the translation. Not trusted: Lean checks it.
import Derived.Test.YtakemodmdhglnaaPAx0
import Derived.Test.YtakemodmdhglnaaPAx1
import Derived.Test.YtakemodmdhglnaaPAx7
import Derived.Test.YtakemodmdhglnaaPAx18
import Derived.Test.YtakemodmdhglnaaPAx19
import Derived.Test.YtakemodmdhglnaaPAx20
import Derived.Test.YtakemodmdhglnaaPAx22
namespace Go.Proofs.Ytakemodmdhglnaa.PA
open Go.RowKit Go.Proofs.YtakemodmdhglnaaW.PrintWords Go.Proofs.YtakemodmdhglnaaW.PrintLast Go.Proofs.YtakemodmdhglnaaW.PrintMore
attribute [local go_sem] max2_int min2_int max_two min_two max_three min_three max_four min_four   -- for this text's walks alone
set_option linter.unusedVariables false
set_option linter.unusedSimpArgs false

attribute [local go_sem high] eqA24
/-! ### magnetolaw04_FieldLong: function 6 -/
mutual
def magnetolaw04_FieldLong.j0 : Nat → Int → List Int → List Int → Int → Bool → Int → Bool → Bool → Int → Int → Int → Int → Int → Int → Int → Int → Int → Option (Bool)
 | 0, _, _, _, _, _, _, _, _, _, _, _, _, _, _, _, _, _ => none
 | k + 1, x1, x2, x7, x8, x46, x474000, x474001, x474002, x474003, x474004, x474005, x474006, x474007, x474008, x474009, x474010, x474011 => if x46 = true then (if x8 = 0 then ((magnetolaw04_awake.f k).bind fun t479 => (some t479)) else (if (x7.length : Int) = 0 then ((magnetolaw04_awake.f k).bind fun t480 => (some t480)) else (none))) else (if x474001 = true then (magnetolaw04_FieldLong.j1 k x1 x2 x7 35 x474000 x474001 x474002 x474003 x474004 x474005 x474006 x474007 x474008 x474009 x474010 x474011) else (magnetolaw04_FieldLong.j1 k x1 x2 x7 15 x474000 x474001 x474002 x474003 x474004 x474005 x474006 x474007 x474008 x474009 x474010 x474011))
def magnetolaw04_FieldLong.j1 : Nat → Int → List Int → List Int → Int → Int → Bool → Bool → Int → Int → Int → Int → Int → Int → Int → Int → Int → Option (Bool)
 | 0, _, _, _, _, _, _, _, _, _, _, _, _, _, _, _, _ => none
 | k + 1, x1, x2, x7, x9, x474000, x474001, x474002, x474003, x474004, x474005, x474006, x474007, x474008, x474009, x474010, x474011 => if (wrap64 (x9 + 4)) > (x7.length : Int) then (none) else (magnetolaw04_FieldLong.l0 k x1 x2 x7 x9 0 x474000 x474001 x474002 x474003 x474004 x474005 x474006 x474007 x474008 x474009 x474010 x474011)
def magnetolaw04_FieldLong.l0 : Nat → Int → List Int → List Int → Int → Int → Int → Bool → Bool → Int → Int → Int → Int → Int → Int → Int → Int → Int → Option (Bool)
 | 0, _, _, _, _, _, _, _, _, _, _, _, _, _, _, _, _, _ => none
 | k + 1, x1, x2, x7, x9, x10, x474000, x474001, x474002, x474003, x474004, x474005, x474006, x474007, x474008, x474009, x474010, x474011 => if x10 < 4 then (if 0 ≤ (wrap64 (3 - x10)) then (if 0 ≤ (wrap64 (x9 + x10)) then (if (wrap64 (x9 + x10)) < (x7.length : Int) then (magnetolaw04_FieldLong.l0 k x1 x2 (x7.set ((wrap64 (x9 + x10)) : Int).toNat (Int.tmod (shr .i64 x1 (wrap64 (3 - x10))) 2)) x9 (wrap64 (x10 + 1)) x474000 x474001 x474002 x474003 x474004 x474005 x474006 x474007 x474008 x474009 x474010 x474011) else (none)) else (none)) else (none)) else ((field_Ahead.f x7).bind fun bt482 => ((field_Frame.f k x7).bind fun bt484 => ((some (([] : List Int) : List Int)).bind fun y498 => (if y498.length + x7.length < 17592186044416 then ((some (y498 ++ x7 : List Int)).bind fun y501 => (if y501.length + x2.length < 17592186044416 then ((field_Frame.f k (y501 ++ x2)).bind fun bt507 => (if bt482.2 = 0 then (if bt482.1 = (x7.length : Int) then (if (bt484.1 == x474000 && (bt484.2.1 == x474001 && (bt484.2.2.1 == x474002 && (bt484.2.2.2.1 == x474003 && ((bt484.2.2.2.2.1 == x474004 && (bt484.2.2.2.2.2.1 == x474005 && (bt484.2.2.2.2.2.2.1 == x474006 && (bt484.2.2.2.2.2.2.2.1 == x474007 && (bt484.2.2.2.2.2.2.2.2.1 == x474008 && (bt484.2.2.2.2.2.2.2.2.2.1 == x474009 && (bt484.2.2.2.2.2.2.2.2.2.2.1 == x474010 && (bt484.2.2.2.2.2.2.2.2.2.2.2.1 == x474011))))))))))))) = true then (if bt484.2.2.2.2.2.2.2.2.2.2.2.2 = 0 then (if (bt507.1 == x474000 && (bt507.2.1 == x474001 && (bt507.2.2.1 == x474002 && (bt507.2.2.2.1 == x474003 && ((bt507.2.2.2.2.1 == x474004 && (bt507.2.2.2.2.2.1 == x474005 && (bt507.2.2.2.2.2.2.1 == x474006 && (bt507.2.2.2.2.2.2.2.1 == x474007 && (bt507.2.2.2.2.2.2.2.2.1 == x474008 && (bt507.2.2.2.2.2.2.2.2.2.1 == x474009 && (bt507.2.2.2.2.2.2.2.2.2.2.1 == x474010 && (bt507.2.2.2.2.2.2.2.2.2.2.2.1 == x474011))))))))))))) = true then (if bt507.2.2.2.2.2.2.2.2.2.2.2.2 = 0 then ((magnetolaw04_awake.f k).bind fun t521 => (some t521)) else (none)) else (none)) else (none)) else (none)) else (none)) else (none))) else (none))) else (none)))))
end
def magnetolaw04_FieldLong.f (k : Nat) (a0_0 : Int) (a0_1 : Bool) (a0_2 : Bool) (a0_3 : Int) (a0_4 : Int) (a0_5 : Int) (a0_6 : Int) (a0_7 : Int) (a0_8 : Int) (a0_9 : Int) (a0_10 : Int) (a0_11 : Int) (a1 : Int) (l2 : List Int) : Option (Bool) := (field_Bits.f a0_0 a0_1 a0_2 a0_3 a0_4 a0_5 a0_6 a0_7 a0_8 a0_9 a0_10 a0_11).bind fun bt474 => (if bt474.2 = 0 then (if a1 < 9 then (magnetolaw04_FieldLong.j0 k a1 l2 bt474.1 bt474.2 true a0_0 a0_1 a0_2 a0_3 a0_4 a0_5 a0_6 a0_7 a0_8 a0_9 a0_10 a0_11) else (if a1 > 15 then (magnetolaw04_FieldLong.j0 k a1 l2 bt474.1 bt474.2 true a0_0 a0_1 a0_2 a0_3 a0_4 a0_5 a0_6 a0_7 a0_8 a0_9 a0_10 a0_11) else (if a0_3 = 8 then (if (l2.length : Int) > 20 then (magnetolaw04_FieldLong.j0 k a1 l2 bt474.1 bt474.2 true a0_0 a0_1 a0_2 a0_3 a0_4 a0_5 a0_6 a0_7 a0_8 a0_9 a0_10 a0_11) else ((magnetolaw04_levels.f k l2).bind fun t478 => (magnetolaw04_FieldLong.j0 k a1 l2 bt474.1 bt474.2 (!t478) a0_0 a0_1 a0_2 a0_3 a0_4 a0_5 a0_6 a0_7 a0_8 a0_9 a0_10 a0_11))) else (magnetolaw04_FieldLong.j0 k a1 l2 bt474.1 bt474.2 true a0_0 a0_1 a0_2 a0_3 a0_4 a0_5 a0_6 a0_7 a0_8 a0_9 a0_10 a0_11)))) else (magnetolaw04_FieldLong.j0 k a1 l2 bt474.1 bt474.2 true a0_0 a0_1 a0_2 a0_3 a0_4 a0_5 a0_6 a0_7 a0_8 a0_9 a0_10 a0_11))
theorem magnetolaw04_FieldLong.mono_l : ∀ k, (∀ y0 y1 y2 y3 y4 y5 y6 y7 y8 y9 y10 y11 y12 y13 y14 y15 y16, LeO (magnetolaw04_FieldLong.j0 k y0 y1 y2 y3 y4 y5 y6 y7 y8 y9 y10 y11 y12 y13 y14 y15 y16) (magnetolaw04_FieldLong.j0 (k + 1) y0 y1 y2 y3 y4 y5 y6 y7 y8 y9 y10 y11 y12 y13 y14 y15 y16)) ∧ (∀ y0 y1 y2 y3 y4 y5 y6 y7 y8 y9 y10 y11 y12 y13 y14 y15, LeO (magnetolaw04_FieldLong.j1 k y0 y1 y2 y3 y4 y5 y6 y7 y8 y9 y10 y11 y12 y13 y14 y15) (magnetolaw04_FieldLong.j1 (k + 1) y0 y1 y2 y3 y4 y5 y6 y7 y8 y9 y10 y11 y12 y13 y14 y15)) ∧ (∀ y0 y1 y2 y3 y4 y5 y6 y7 y8 y9 y10 y11 y12 y13 y14 y15 y16, LeO (magnetolaw04_FieldLong.l0 k y0 y1 y2 y3 y4 y5 y6 y7 y8 y9 y10 y11 y12 y13 y14 y15 y16) (magnetolaw04_FieldLong.l0 (k + 1) y0 y1 y2 y3 y4 y5 y6 y7 y8 y9 y10 y11 y12 y13 y14 y15 y16))
 | 0 => ⟨fun _ _ _ _ _ _ _ _ _ _ _ _ _ _ _ _ _ r h => by simp [magnetolaw04_FieldLong.j0] at h, fun _ _ _ _ _ _ _ _ _ _ _ _ _ _ _ _ r h => by simp [magnetolaw04_FieldLong.j1] at h, fun _ _ _ _ _ _ _ _ _ _ _ _ _ _ _ _ _ r h => by simp [magnetolaw04_FieldLong.l0] at h⟩
 | k + 1 => by
  obtain ⟨ih0, ih1, ih2⟩ := magnetolaw04_FieldLong.mono_l k
  refine ⟨?_, ?_, ?_⟩
  ·
   intro y0 y1 y2 y3 y4 y5 y6 y7 y8 y9 y10 y11 y12 y13 y14 y15 y16
   unfold magnetolaw04_FieldLong.j0
   repeat' first
   | (with_reducible exact ih0 _ _ _ _ _ _ _ _ _ _ _ _ _ _ _ _ _)
   | (with_reducible exact ih1 _ _ _ _ _ _ _ _ _ _ _ _ _ _ _ _)
   | (with_reducible exact ih2 _ _ _ _ _ _ _ _ _ _ _ _ _ _ _ _ _)
   | (with_reducible exact field_Frame.mono _ _)
   | (with_reducible exact magnetolaw04_awake.mono _)
   | (with_reducible exact magnetolaw04_levels.mono _ _)
   | (with_reducible exact LeO.refl _)
   | (with_reducible exact LeO.none _)
   | (with_reducible refine LeO.ite ?_ ?_)
   | (with_reducible refine LeO.bind ?_ (fun _ => ?_))
   | exact ih0 _ _ _ _ _ _ _ _ _ _ _ _ _ _ _ _ _
   | exact ih1 _ _ _ _ _ _ _ _ _ _ _ _ _ _ _ _
   | exact ih2 _ _ _ _ _ _ _ _ _ _ _ _ _ _ _ _ _
   | exact field_Frame.mono _ _
   | exact magnetolaw04_awake.mono _
   | exact magnetolaw04_levels.mono _ _
   | exact LeO.none _
   | refine LeO.ite ?_ ?_
   | refine LeO.bind ?_ (fun _ => ?_)
  ·
   intro y0 y1 y2 y3 y4 y5 y6 y7 y8 y9 y10 y11 y12 y13 y14 y15
   unfold magnetolaw04_FieldLong.j1
   repeat' first
   | (with_reducible exact ih0 _ _ _ _ _ _ _ _ _ _ _ _ _ _ _ _ _)
   | (with_reducible exact ih1 _ _ _ _ _ _ _ _ _ _ _ _ _ _ _ _)
   | (with_reducible exact ih2 _ _ _ _ _ _ _ _ _ _ _ _ _ _ _ _ _)
   | (with_reducible exact field_Frame.mono _ _)
   | (with_reducible exact magnetolaw04_awake.mono _)
   | (with_reducible exact magnetolaw04_levels.mono _ _)
   | (with_reducible exact LeO.refl _)
   | (with_reducible exact LeO.none _)
   | (with_reducible refine LeO.ite ?_ ?_)
   | (with_reducible refine LeO.bind ?_ (fun _ => ?_))
   | exact ih0 _ _ _ _ _ _ _ _ _ _ _ _ _ _ _ _ _
   | exact ih1 _ _ _ _ _ _ _ _ _ _ _ _ _ _ _ _
   | exact ih2 _ _ _ _ _ _ _ _ _ _ _ _ _ _ _ _ _
   | exact field_Frame.mono _ _
   | exact magnetolaw04_awake.mono _
   | exact magnetolaw04_levels.mono _ _
   | exact LeO.none _
   | refine LeO.ite ?_ ?_
   | refine LeO.bind ?_ (fun _ => ?_)
  ·
   intro y0 y1 y2 y3 y4 y5 y6 y7 y8 y9 y10 y11 y12 y13 y14 y15 y16
   unfold magnetolaw04_FieldLong.l0
   repeat' first
   | (with_reducible exact ih0 _ _ _ _ _ _ _ _ _ _ _ _ _ _ _ _ _)
   | (with_reducible exact ih1 _ _ _ _ _ _ _ _ _ _ _ _ _ _ _ _)
   | (with_reducible exact ih2 _ _ _ _ _ _ _ _ _ _ _ _ _ _ _ _ _)
   | (with_reducible exact field_Frame.mono _ _)
   | (with_reducible exact magnetolaw04_awake.mono _)
   | (with_reducible exact magnetolaw04_levels.mono _ _)
   | (with_reducible exact LeO.refl _)
   | (with_reducible exact LeO.none _)
   | (with_reducible refine LeO.ite ?_ ?_)
   | (with_reducible refine LeO.bind ?_ (fun _ => ?_))
   | exact ih0 _ _ _ _ _ _ _ _ _ _ _ _ _ _ _ _ _
   | exact ih1 _ _ _ _ _ _ _ _ _ _ _ _ _ _ _ _
   | exact ih2 _ _ _ _ _ _ _ _ _ _ _ _ _ _ _ _ _
   | exact field_Frame.mono _ _
   | exact magnetolaw04_awake.mono _
   | exact magnetolaw04_levels.mono _ _
   | exact LeO.none _
   | refine LeO.ite ?_ ?_
   | refine LeO.bind ?_ (fun _ => ?_)
theorem magnetolaw04_FieldLong.mono : ∀ a0 a1 a2 a3 a4 a5 a6 a7 a8 a9 a10 a11 a12 a13 k, LeO (magnetolaw04_FieldLong.f k a0 a1 a2 a3 a4 a5 a6 a7 a8 a9 a10 a11 a12 a13) (magnetolaw04_FieldLong.f (k + 1) a0 a1 a2 a3 a4 a5 a6 a7 a8 a9 a10 a11 a12 a13) := by
 intro a0 a1 a2 a3 a4 a5 a6 a7 a8 a9 a10 a11 a12 a13 k
 obtain ⟨ih0, ih1, ih2⟩ := magnetolaw04_FieldLong.mono_l k
 unfold magnetolaw04_FieldLong.f
 repeat' first
   | (with_reducible exact ih0 _ _ _ _ _ _ _ _ _ _ _ _ _ _ _ _ _)
   | (with_reducible exact ih1 _ _ _ _ _ _ _ _ _ _ _ _ _ _ _ _)
   | (with_reducible exact ih2 _ _ _ _ _ _ _ _ _ _ _ _ _ _ _ _ _)
   | (with_reducible exact field_Frame.mono _ _)
   | (with_reducible exact magnetolaw04_awake.mono _)
   | (with_reducible exact magnetolaw04_levels.mono _ _)
   | (with_reducible exact LeO.refl _)
   | (with_reducible exact LeO.none _)
   | (with_reducible refine LeO.ite ?_ ?_)
   | (with_reducible refine LeO.bind ?_ (fun _ => ?_))
   | exact ih0 _ _ _ _ _ _ _ _ _ _ _ _ _ _ _ _ _
   | exact ih1 _ _ _ _ _ _ _ _ _ _ _ _ _ _ _ _
   | exact ih2 _ _ _ _ _ _ _ _ _ _ _ _ _ _ _ _ _
   | exact field_Frame.mono _ _
   | exact magnetolaw04_awake.mono _
   | exact magnetolaw04_levels.mono _ _
   | exact LeO.none _
   | refine LeO.ite ?_ ?_
   | refine LeO.bind ?_ (fun _ => ?_)
set_option maxHeartbeats 8000000 in
set_option maxRecDepth 100000 in
theorem magnetolaw04_FieldLong.calls (k : Nat) (a0_0 : Int) (a0_1 : Bool) (a0_2 : Bool) (a0_3 : Int) (a0_4 : Int) (a0_5 : Int) (a0_6 : Int) (a0_7 : Int) (a0_8 : Int) (a0_9 : Int) (a0_10 : Int) (a0_11 : Int) (a1 : Int) (A2 : Option Addr) (c2 : Nat) (l2 : List Int) (r : Bool) (w : World) (hr2 : Kd.C (Kd.int .i64) w A2 l2.length l2) (hc2 : l2.length ≤ c2) (h : magnetolaw04_FieldLong.f k a0_0 a0_1 a0_2 a0_3 a0_4 a0_5 a0_6 a0_7 a0_8 a0_9 a0_10 a0_11 a1 l2 = some r) :
  Calls Try.prog 6 #[.agg #[.int .i64 a0_0, .bool a0_1, .bool a0_2, .int .i64 a0_3, .int .u8 a0_4, .int .u8 a0_5, .int .u8 a0_6, .int .u8 a0_7, .int .u8 a0_8, .int .u8 a0_9, .int .u8 a0_10, .int .u8 a0_11], .int .i64 a1, .slice A2 l2.length c2] w fun e w' => e = .returned (.bool r) ∧ Below w.heap.size w w' := by
 have hu24 := Try.underlying24
 have HR2 := Aside0.mk hr2
 have HC2 := Aside0.mk hc2
 clear hr2 hc2
 have HB := Aside0.mk (Below.refl w.heap.size w)
 have H : ((field_Bits.f a0_0 a0_1 a0_2 a0_3 a0_4 a0_5 a0_6 a0_7 a0_8 a0_9 a0_10 a0_11).bind fun bt474 => (if bt474.2 = 0 then (if a1 < 9 then (magnetolaw04_FieldLong.j0 k a1 l2 bt474.1 bt474.2 true a0_0 a0_1 a0_2 a0_3 a0_4 a0_5 a0_6 a0_7 a0_8 a0_9 a0_10 a0_11) else (if a1 > 15 then (magnetolaw04_FieldLong.j0 k a1 l2 bt474.1 bt474.2 true a0_0 a0_1 a0_2 a0_3 a0_4 a0_5 a0_6 a0_7 a0_8 a0_9 a0_10 a0_11) else (if a0_3 = 8 then (if (l2.length : Int) > 20 then (magnetolaw04_FieldLong.j0 k a1 l2 bt474.1 bt474.2 true a0_0 a0_1 a0_2 a0_3 a0_4 a0_5 a0_6 a0_7 a0_8 a0_9 a0_10 a0_11) else ((magnetolaw04_levels.f k l2).bind fun t478 => (magnetolaw04_FieldLong.j0 k a1 l2 bt474.1 bt474.2 (!t478) a0_0 a0_1 a0_2 a0_3 a0_4 a0_5 a0_6 a0_7 a0_8 a0_9 a0_10 a0_11))) else (magnetolaw04_FieldLong.j0 k a1 l2 bt474.1 bt474.2 true a0_0 a0_1 a0_2 a0_3 a0_4 a0_5 a0_6 a0_7 a0_8 a0_9 a0_10 a0_11)))) else (magnetolaw04_FieldLong.j0 k a1 l2 bt474.1 bt474.2 true a0_0 a0_1 a0_2 a0_3 a0_4 a0_5 a0_6 a0_7 a0_8 a0_9 a0_10 a0_11))) = some r := h
 clear h
 replace H := Option.bind_eq_some_iff.mp H
 obtain ⟨⟨t474, t477⟩, A40, H⟩ := H
 replace H : (if t477 = 0 then (if a1 < 9 then (magnetolaw04_FieldLong.j0 k a1 l2 t474 t477 true a0_0 a0_1 a0_2 a0_3 a0_4 a0_5 a0_6 a0_7 a0_8 a0_9 a0_10 a0_11) else (if a1 > 15 then (magnetolaw04_FieldLong.j0 k a1 l2 t474 t477 true a0_0 a0_1 a0_2 a0_3 a0_4 a0_5 a0_6 a0_7 a0_8 a0_9 a0_10 a0_11) else (if a0_3 = 8 then (if (l2.length : Int) > 20 then (magnetolaw04_FieldLong.j0 k a1 l2 t474 t477 true a0_0 a0_1 a0_2 a0_3 a0_4 a0_5 a0_6 a0_7 a0_8 a0_9 a0_10 a0_11) else ((magnetolaw04_levels.f k l2).bind fun t478 => (magnetolaw04_FieldLong.j0 k a1 l2 t474 t477 (!t478) a0_0 a0_1 a0_2 a0_3 a0_4 a0_5 a0_6 a0_7 a0_8 a0_9 a0_10 a0_11))) else (magnetolaw04_FieldLong.j0 k a1 l2 t474 t477 true a0_0 a0_1 a0_2 a0_3 a0_4 a0_5 a0_6 a0_7 a0_8 a0_9 a0_10 a0_11)))) else (magnetolaw04_FieldLong.j0 k a1 l2 t474 t477 true a0_0 a0_1 a0_2 a0_3 a0_4 a0_5 a0_6 a0_7 a0_8 a0_9 a0_10 a0_11)) = some r := H
 have A4 := Aside0.mk A40
 clear A40
 have HC5 := Aside0.mk H
 clear H
 go_enter Try.func6, Try.ntmps6
 go_upto_region 2 with (first | ((with_reducible refine gate_dst (N := 3) rfl ?_); (try (refine gate_guard (by rfl) ?_; dsimp only)); refine box_event ?hg (N := 3) ?hd (cs := #[.int .i64 a0_0, .bool a0_1, .bool a0_2, .int .i64 a0_3, .int .u8 a0_4, .int .u8 a0_5, .int .u8 a0_6, .int .u8 a0_7, .int .u8 a0_8, .int .u8 a0_9, .int .u8 a0_10, .int .u8 a0_11]) (t := 24) ?hr ?_; (case hd => rfl); (case hg => rfl); (case hr => first | (go_simp; done) | (go_simp; rfl)); intro gb473 hg w6 hbox hb; have n0_ := Aside0.mk (below_step (by repeat (first | (with_reducible first | exact HB.out | apply below_alloc | apply pw_below_drewN | apply below_drew1) | exact HB.out)) hb); have n1_ := Aside0.mk (hbox); have n2_ := Aside0.mk ((by rw [hg]; exact (below_size (by repeat (first | (with_reducible first | exact HB.out | apply below_alloc | apply pw_below_drewN | apply below_drew1) | exact HB.out))) : w.heap.size ≤ gb473)); have n3_ := Aside0.mk ((by rw [hg]; exact (below_size (by repeat (first | (with_reducible first | exact HB.out | apply below_alloc | apply pw_below_drewN | apply below_drew1) | exact HB.out))) : w.heap.size ≤ gb473)); clear HB; have HB := n0_; have BK473 := n1_; have GW473 := n2_; have GE473 := n3_; clear n0_ n1_ n2_ n3_; clear hb hbox hg; have hcz7_0 : w6.cell? ⟨gb473, 0, none⟩ = some (.int .i64 a0_0) := (blk_cell BK473.out 0).trans rfl; have hcz7_1 : w6.cell? ⟨gb473, 1, none⟩ = some (.bool a0_1) := (blk_cell BK473.out 1).trans rfl; have hcz7_2 : w6.cell? ⟨gb473, 2, none⟩ = some (.bool a0_2) := (blk_cell BK473.out 2).trans rfl; have hcz7_3 : w6.cell? ⟨gb473, 3, none⟩ = some (.int .i64 a0_3) := (blk_cell BK473.out 3).trans rfl; have hcz7_4 : w6.cell? ⟨gb473, 4, none⟩ = some (.int .u8 a0_4) := (blk_cell BK473.out 4).trans rfl; have hcz7_5 : w6.cell? ⟨gb473, 5, none⟩ = some (.int .u8 a0_5) := (blk_cell BK473.out 5).trans rfl; have hcz7_6 : w6.cell? ⟨gb473, 6, none⟩ = some (.int .u8 a0_6) := (blk_cell BK473.out 6).trans rfl; have hcz7_7 : w6.cell? ⟨gb473, 7, none⟩ = some (.int .u8 a0_7) := (blk_cell BK473.out 7).trans rfl; have hcz7_8 : w6.cell? ⟨gb473, 8, none⟩ = some (.int .u8 a0_8) := (blk_cell BK473.out 8).trans rfl; have hcz7_9 : w6.cell? ⟨gb473, 9, none⟩ = some (.int .u8 a0_9) := (blk_cell BK473.out 9).trans rfl; have hcz7_10 : w6.cell? ⟨gb473, 10, none⟩ = some (.int .u8 a0_10) := (blk_cell BK473.out 10).trans rfl; have hcz7_11 : w6.cell? ⟨gb473, 11, none⟩ = some (.int .u8 a0_11) := (blk_cell BK473.out 11).trans rfl; have hfz7_0 := blk_frozen BK473.out 0; have hfz7_1 := blk_frozen BK473.out 1; have hfz7_2 := blk_frozen BK473.out 2; have hfz7_3 := blk_frozen BK473.out 3; have hfz7_4 := blk_frozen BK473.out 4; have hfz7_5 := blk_frozen BK473.out 5; have hfz7_6 := blk_frozen BK473.out 6; have hfz7_7 := blk_frozen BK473.out 7; have hfz7_8 := blk_frozen BK473.out 8; have hfz7_9 := blk_frozen BK473.out 9; have hfz7_10 := blk_frozen BK473.out 10; have hfz7_11 := blk_frozen BK473.out 11) | ((with_reducible refine gate_callee (f := 16) rfl ?_); refine goesL_ (some 19) rfl rfl Try.func16 (by kernel_rfl) rfl #[.agg #[.int .i64 a0_0, .bool a0_1, .bool a0_2, .int .i64 a0_3, .int .u8 a0_4, .int .u8 a0_5, .int .u8 a0_6, .int .u8 a0_7, .int .u8 a0_8, .int .u8 a0_9, .int .u8 a0_10, .int .u8 a0_11]] rfl (by (try simp only [List.map_toArray, List.map_cons, List.map_nil]); first | done | rfl | (simp only [List.length_drop, List.length_take]; rfl)) ?_; (with_reducible refine (field_Bits.calls a0_0 a0_1 a0_2 a0_3 a0_4 a0_5 a0_6 a0_7 a0_8 a0_9 a0_10 a0_11 t474 t477 _ A4.out).mono ?_); rintro e w8 ⟨v475, rfl, ho0, hb⟩; refine ⟨_, rfl, ?_⟩; have n0_ := Aside0.mk (Kd.R_lower ho0 (below_size (by repeat (first | (with_reducible first | exact HB.out | apply below_alloc | apply pw_below_drewN | apply below_drew1 | refine below_set ?_ GE473.out) | exact HB.out)))); have n1_ := Aside0.mk (blk_below (g := gb473) (o := .cells #[.int .i64 a0_0, .bool a0_1, .bool a0_2, .int .i64 a0_3, .int .u8 a0_4, .int .u8 a0_5, .int .u8 a0_6, .int .u8 a0_7, .int .u8 a0_8, .int .u8 a0_9, .int .u8 a0_10, .int .u8 a0_11] 24 (0, 0)) (by (with_reducible repeat (first | refine blk_drewN ?_ _ | refine blk_drew ?_ | refine blk_alloc ?_ _)); exact BK473.out) hb); have n2_ := Aside0.mk (below_step (by repeat (first | (with_reducible first | exact HB.out | apply below_alloc | apply pw_below_drewN | apply below_drew1 | refine below_set ?_ GE473.out) | exact HB.out)) hb); clear BK473; clear HB; have HO476 := n0_; have BK473 := n1_; have HB := n2_; clear n0_ n1_ n2_; (try clear hb); (try clear hb2); (try clear hk); (try clear hi); (try clear ho0)))
 (try simp only [Act.put, List.setIfInBounds_toArray, List.set_cons_zero, List.set_cons_succ])
 go_cut [46] (fun v46 wc => ∃ (kq : Nat) (x46_4 : Bool), v46 = .bool x46_4 ∧ Aside0 (magnetolaw04_FieldLong.j0 kq a1 l2 t474 t477 x46_4 a0_0 a0_1 a0_2 a0_3 a0_4 a0_5 a0_6 a0_7 a0_8 a0_9 a0_10 a0_11 = some r) ∧ Aside0 (kq ≤ k) ∧ Aside0 (Kd.R (Kd.int .i64) 3 wc w.heap.size (fun _ => True) v475 t474) ∧ Aside0 (wc.heap[gb473]? = some (.cells #[.int .i64 a0_0, .bool a0_1, .bool a0_2, .int .i64 a0_3, .int .u8 a0_4, .int .u8 a0_5, .int .u8 a0_6, .int .u8 a0_7, .int .u8 a0_8, .int .u8 a0_9, .int .u8 a0_10, .int .u8 a0_11] 24 (0, 0))) ∧ Aside0 (Below w.heap.size w wc))
 case first =>
  have H := HC5.out
  clear HC5
  by_cases c9 : t477 = 0
  ·
   rw [if_pos c9] at H
   have c9b0 : (t477 == 0) = true := beq_iff_eq.mpr c9
   have c9b1 : (t477 != 0) = false := bne_eq_false_iff_eq.mpr c9
   clear c9
   (first | rw [c9b0] | (simp only [i64_w, i32_w]; rw [c9b0]) | skip)
   by_cases c10 : a1 < 9
   ·
    rw [if_pos c10] at H
    have c10b0 : decide (a1 < 9) = true := decide_eq_true c10
    clear c10
    have H' := Aside0.mk H
    clear H
    go_wp2
    go_meet
    case rel => exact ⟨_, (true), (by first | rfl | (rw [Int.tdiv_eq_ediv_of_nonneg (by assumption)]; done) | (simp; done) | (simp [*]; done)), H', ⟨by first | omega | exact Nat.le_refl _⟩, ⟨by (with_reducible repeat (first | apply Kd.R_alloc | apply Kd.R_drewN | apply Kd.R_drew)); exact HO476.out⟩, ⟨by (with_reducible repeat (first | refine blk_drewN ?_ _ | refine blk_drew ?_ | refine blk_alloc ?_ _)); exact BK473.out⟩, ⟨by repeat (first | (with_reducible first | exact HB.out | apply below_alloc | apply pw_below_drewN | apply below_drew1 | refine below_set ?_ GE473.out) | exact HB.out)⟩⟩
   ·
    rw [if_neg c10] at H
    have c10b0 : decide (a1 < 9) = false := decide_eq_false c10
    clear c10
    by_cases c11 : a1 > 15
    ·
     rw [if_pos c11] at H
     have c11b0 : decide (15 < a1) = true := decide_eq_true c11
     clear c11
     have H' := Aside0.mk H
     clear H
     go_wp2
     go_meet
     case rel => exact ⟨_, (true), (by first | rfl | (rw [Int.tdiv_eq_ediv_of_nonneg (by assumption)]; done) | (simp; done) | (simp [*]; done)), H', ⟨by first | omega | exact Nat.le_refl _⟩, ⟨by (with_reducible repeat (first | apply Kd.R_alloc | apply Kd.R_drewN | apply Kd.R_drew)); exact HO476.out⟩, ⟨by (with_reducible repeat (first | refine blk_drewN ?_ _ | refine blk_drew ?_ | refine blk_alloc ?_ _)); exact BK473.out⟩, ⟨by repeat (first | (with_reducible first | exact HB.out | apply below_alloc | apply pw_below_drewN | apply below_drew1 | refine below_set ?_ GE473.out) | exact HB.out)⟩⟩
    ·
     rw [if_neg c11] at H
     have c11b0 : decide (15 < a1) = false := decide_eq_false c11
     clear c11
     by_cases c12 : a0_3 = 8
     ·
      rw [if_pos c12] at H
      have c12b0 : (a0_3 == 8) = true := beq_iff_eq.mpr c12
      have c12b1 : (a0_3 != 8) = false := bne_eq_false_iff_eq.mpr c12
      clear c12
      by_cases c13 : (l2.length : Int) > 20
      ·
       rw [if_pos c13] at H
       have c13b0 : decide (20 < (l2.length : Int)) = true := decide_eq_true c13
       have c13b1 : decide (20 < l2.length) = true := decide_eq_true (by omega)
       clear c13
       have H' := Aside0.mk H
       clear H
       have hcz14_0 : w8.cell? ⟨gb473, 0, none⟩ = some (.int .i64 a0_0) := (blk_cell BK473.out 0).trans rfl
       have hcz14_1 : w8.cell? ⟨gb473, 1, none⟩ = some (.bool a0_1) := (blk_cell BK473.out 1).trans rfl
       have hcz14_2 : w8.cell? ⟨gb473, 2, none⟩ = some (.bool a0_2) := (blk_cell BK473.out 2).trans rfl
       have hcz14_3 : w8.cell? ⟨gb473, 3, none⟩ = some (.int .i64 a0_3) := (blk_cell BK473.out 3).trans rfl
       have hcz14_4 : w8.cell? ⟨gb473, 4, none⟩ = some (.int .u8 a0_4) := (blk_cell BK473.out 4).trans rfl
       have hcz14_5 : w8.cell? ⟨gb473, 5, none⟩ = some (.int .u8 a0_5) := (blk_cell BK473.out 5).trans rfl
       have hcz14_6 : w8.cell? ⟨gb473, 6, none⟩ = some (.int .u8 a0_6) := (blk_cell BK473.out 6).trans rfl
       have hcz14_7 : w8.cell? ⟨gb473, 7, none⟩ = some (.int .u8 a0_7) := (blk_cell BK473.out 7).trans rfl
       have hcz14_8 : w8.cell? ⟨gb473, 8, none⟩ = some (.int .u8 a0_8) := (blk_cell BK473.out 8).trans rfl
       have hcz14_9 : w8.cell? ⟨gb473, 9, none⟩ = some (.int .u8 a0_9) := (blk_cell BK473.out 9).trans rfl
       have hcz14_10 : w8.cell? ⟨gb473, 10, none⟩ = some (.int .u8 a0_10) := (blk_cell BK473.out 10).trans rfl
       have hcz14_11 : w8.cell? ⟨gb473, 11, none⟩ = some (.int .u8 a0_11) := (blk_cell BK473.out 11).trans rfl
       have hfz14_0 := blk_frozen BK473.out 0
       have hfz14_1 := blk_frozen BK473.out 1
       have hfz14_2 := blk_frozen BK473.out 2
       have hfz14_3 := blk_frozen BK473.out 3
       have hfz14_4 := blk_frozen BK473.out 4
       have hfz14_5 := blk_frozen BK473.out 5
       have hfz14_6 := blk_frozen BK473.out 6
       have hfz14_7 := blk_frozen BK473.out 7
       have hfz14_8 := blk_frozen BK473.out 8
       have hfz14_9 := blk_frozen BK473.out 9
       have hfz14_10 := blk_frozen BK473.out 10
       have hfz14_11 := blk_frozen BK473.out 11
       go_wp2
       go_meet
       case rel => exact ⟨_, (true), (by first | rfl | (rw [Int.tdiv_eq_ediv_of_nonneg (by assumption)]; done) | (simp; done) | (simp [*]; done)), H', ⟨by first | omega | exact Nat.le_refl _⟩, ⟨by (with_reducible repeat (first | apply Kd.R_alloc | apply Kd.R_drewN | apply Kd.R_drew)); exact HO476.out⟩, ⟨by (with_reducible repeat (first | refine blk_drewN ?_ _ | refine blk_drew ?_ | refine blk_alloc ?_ _)); exact BK473.out⟩, ⟨by repeat (first | (with_reducible first | exact HB.out | apply below_alloc | apply pw_below_drewN | apply below_drew1 | refine below_set ?_ GE473.out) | exact HB.out)⟩⟩
      ·
       rw [if_neg c13] at H
       have c13b0 : decide (20 < (l2.length : Int)) = false := decide_eq_false c13
       have c13b1 : decide (20 < l2.length) = false := decide_eq_false (by omega)
       clear c13
       replace H := Option.bind_eq_some_iff.mp H
       obtain ⟨t478, A150, H⟩ := H
       replace H : (magnetolaw04_FieldLong.j0 k a1 l2 t474 t477 (!t478) a0_0 a0_1 a0_2 a0_3 a0_4 a0_5 a0_6 a0_7 a0_8 a0_9 a0_10 a0_11) = some r := H
       have A15 := Aside0.mk A150
       clear A150
       have H' := Aside0.mk H
       clear H
       have hcz16_0 : w8.cell? ⟨gb473, 0, none⟩ = some (.int .i64 a0_0) := (blk_cell BK473.out 0).trans rfl
       have hcz16_1 : w8.cell? ⟨gb473, 1, none⟩ = some (.bool a0_1) := (blk_cell BK473.out 1).trans rfl
       have hcz16_2 : w8.cell? ⟨gb473, 2, none⟩ = some (.bool a0_2) := (blk_cell BK473.out 2).trans rfl
       have hcz16_3 : w8.cell? ⟨gb473, 3, none⟩ = some (.int .i64 a0_3) := (blk_cell BK473.out 3).trans rfl
       have hcz16_4 : w8.cell? ⟨gb473, 4, none⟩ = some (.int .u8 a0_4) := (blk_cell BK473.out 4).trans rfl
       have hcz16_5 : w8.cell? ⟨gb473, 5, none⟩ = some (.int .u8 a0_5) := (blk_cell BK473.out 5).trans rfl
       have hcz16_6 : w8.cell? ⟨gb473, 6, none⟩ = some (.int .u8 a0_6) := (blk_cell BK473.out 6).trans rfl
       have hcz16_7 : w8.cell? ⟨gb473, 7, none⟩ = some (.int .u8 a0_7) := (blk_cell BK473.out 7).trans rfl
       have hcz16_8 : w8.cell? ⟨gb473, 8, none⟩ = some (.int .u8 a0_8) := (blk_cell BK473.out 8).trans rfl
       have hcz16_9 : w8.cell? ⟨gb473, 9, none⟩ = some (.int .u8 a0_9) := (blk_cell BK473.out 9).trans rfl
       have hcz16_10 : w8.cell? ⟨gb473, 10, none⟩ = some (.int .u8 a0_10) := (blk_cell BK473.out 10).trans rfl
       have hcz16_11 : w8.cell? ⟨gb473, 11, none⟩ = some (.int .u8 a0_11) := (blk_cell BK473.out 11).trans rfl
       have hfz16_0 := blk_frozen BK473.out 0
       have hfz16_1 := blk_frozen BK473.out 1
       have hfz16_2 := blk_frozen BK473.out 2
       have hfz16_3 := blk_frozen BK473.out 3
       have hfz16_4 := blk_frozen BK473.out 4
       have hfz16_5 := blk_frozen BK473.out 5
       have hfz16_6 := blk_frozen BK473.out 6
       have hfz16_7 := blk_frozen BK473.out 7
       have hfz16_8 := blk_frozen BK473.out 8
       have hfz16_9 := blk_frozen BK473.out 9
       have hfz16_10 := blk_frozen BK473.out 10
       have hfz16_11 := blk_frozen BK473.out 11
       go_wp2_with (first | (go_at_call 25; (with_reducible refine (magnetolaw04_levels.calls k _ _ l2 t478 _ ?side1 ?side2 A15.out).mono ?_); (case side1 => repeat (first | exact (Kd.C_below HR2.out HB.out) | (with_reducible refine Kd.C_alloc ?_ _) | (with_reducible refine Kd.C_drewN ?_ _) | (with_reducible refine Kd.C_drew ?_))); (case side2 => exact HC2.out); rintro e w' ⟨rfl, ⟨nd, rfl⟩⟩))
       go_meet
       case rel => exact ⟨_, (!t478), (by first | rfl | (rw [Int.tdiv_eq_ediv_of_nonneg (by assumption)]; done) | (simp; done) | (simp [*]; done)), H', ⟨by first | omega | exact Nat.le_refl _⟩, ⟨by (with_reducible repeat (first | apply Kd.R_alloc | apply Kd.R_drewN | apply Kd.R_drew)); exact HO476.out⟩, ⟨by (with_reducible repeat (first | refine blk_drewN ?_ _ | refine blk_drew ?_ | refine blk_alloc ?_ _)); exact BK473.out⟩, ⟨by repeat (first | (with_reducible first | exact HB.out | apply below_alloc | apply pw_below_drewN | apply below_drew1 | refine below_set ?_ GE473.out) | exact HB.out)⟩⟩
     ·
      rw [if_neg c12] at H
      have c12b0 : (a0_3 == 8) = false := beq_eq_false_iff_ne.mpr c12
      have c12b1 : (a0_3 != 8) = true := bne_iff_ne.mpr c12
      have H' := Aside0.mk H
      clear H
      have hcz17_0 : w8.cell? ⟨gb473, 0, none⟩ = some (.int .i64 a0_0) := (blk_cell BK473.out 0).trans rfl
      have hcz17_1 : w8.cell? ⟨gb473, 1, none⟩ = some (.bool a0_1) := (blk_cell BK473.out 1).trans rfl
      have hcz17_2 : w8.cell? ⟨gb473, 2, none⟩ = some (.bool a0_2) := (blk_cell BK473.out 2).trans rfl
      have hcz17_3 : w8.cell? ⟨gb473, 3, none⟩ = some (.int .i64 a0_3) := (blk_cell BK473.out 3).trans rfl
      have hcz17_4 : w8.cell? ⟨gb473, 4, none⟩ = some (.int .u8 a0_4) := (blk_cell BK473.out 4).trans rfl
      have hcz17_5 : w8.cell? ⟨gb473, 5, none⟩ = some (.int .u8 a0_5) := (blk_cell BK473.out 5).trans rfl
      have hcz17_6 : w8.cell? ⟨gb473, 6, none⟩ = some (.int .u8 a0_6) := (blk_cell BK473.out 6).trans rfl
      have hcz17_7 : w8.cell? ⟨gb473, 7, none⟩ = some (.int .u8 a0_7) := (blk_cell BK473.out 7).trans rfl
      have hcz17_8 : w8.cell? ⟨gb473, 8, none⟩ = some (.int .u8 a0_8) := (blk_cell BK473.out 8).trans rfl
      have hcz17_9 : w8.cell? ⟨gb473, 9, none⟩ = some (.int .u8 a0_9) := (blk_cell BK473.out 9).trans rfl
      have hcz17_10 : w8.cell? ⟨gb473, 10, none⟩ = some (.int .u8 a0_10) := (blk_cell BK473.out 10).trans rfl
      have hcz17_11 : w8.cell? ⟨gb473, 11, none⟩ = some (.int .u8 a0_11) := (blk_cell BK473.out 11).trans rfl
      have hfz17_0 := blk_frozen BK473.out 0
      have hfz17_1 := blk_frozen BK473.out 1
      have hfz17_2 := blk_frozen BK473.out 2
      have hfz17_3 := blk_frozen BK473.out 3
      have hfz17_4 := blk_frozen BK473.out 4
      have hfz17_5 := blk_frozen BK473.out 5
      have hfz17_6 := blk_frozen BK473.out 6
      have hfz17_7 := blk_frozen BK473.out 7
      have hfz17_8 := blk_frozen BK473.out 8
      have hfz17_9 := blk_frozen BK473.out 9
      have hfz17_10 := blk_frozen BK473.out 10
      have hfz17_11 := blk_frozen BK473.out 11
      go_wp2
      go_meet
      case rel => exact ⟨_, (true), (by first | rfl | (rw [Int.tdiv_eq_ediv_of_nonneg (by assumption)]; done) | (simp; done) | (simp [*]; done)), H', ⟨by first | omega | exact Nat.le_refl _⟩, ⟨by (with_reducible repeat (first | apply Kd.R_alloc | apply Kd.R_drewN | apply Kd.R_drew)); exact HO476.out⟩, ⟨by (with_reducible repeat (first | refine blk_drewN ?_ _ | refine blk_drew ?_ | refine blk_alloc ?_ _)); exact BK473.out⟩, ⟨by repeat (first | (with_reducible first | exact HB.out | apply below_alloc | apply pw_below_drewN | apply below_drew1 | refine below_set ?_ GE473.out) | exact HB.out)⟩⟩
  ·
   rw [if_neg c9] at H
   have c9b0 : (t477 == 0) = false := beq_eq_false_iff_ne.mpr c9
   have c9b1 : (t477 != 0) = true := bne_iff_ne.mpr c9
   (first | rw [c9b0] | (simp only [i64_w, i32_w]; rw [c9b0]) | skip)
   have H' := Aside0.mk H
   clear H
   go_wp2
   go_meet
   case rel => exact ⟨_, (true), (by first | rfl | (rw [Int.tdiv_eq_ediv_of_nonneg (by assumption)]; done) | (simp; done) | (simp [*]; done)), H', ⟨by first | omega | exact Nat.le_refl _⟩, ⟨by (with_reducible repeat (first | apply Kd.R_alloc | apply Kd.R_drewN | apply Kd.R_drew)); exact HO476.out⟩, ⟨by (with_reducible repeat (first | refine blk_drewN ?_ _ | refine blk_drew ?_ | refine blk_alloc ?_ _)); exact BK473.out⟩, ⟨by repeat (first | (with_reducible first | exact HB.out | apply below_alloc | apply pw_below_drewN | apply below_drew1 | refine below_set ?_ GE473.out) | exact HB.out)⟩⟩
 case rest =>
  clear HC5
  try clear c1
  try clear c2
  try clear p2
  try clear c6
  try clear c9
  try clear c9b0
  try clear c9b1
  try clear c10
  try clear c10b0
  try clear c11
  try clear c11b0
  try clear c12
  try clear c12b0
  try clear c12b1
  try clear c13
  try clear c13b0
  try clear c13b1
  try clear c16
  try clear hcz14_0
  try clear hcz14_1
  try clear hcz14_10
  try clear hcz14_11
  try clear hcz14_2
  try clear hcz14_3
  try clear hcz14_4
  try clear hcz14_5
  try clear hcz14_6
  try clear hcz14_7
  try clear hcz14_8
  try clear hcz14_9
  try clear hcz16_0
  try clear hcz16_1
  try clear hcz16_10
  try clear hcz16_11
  try clear hcz16_2
  try clear hcz16_3
  try clear hcz16_4
  try clear hcz16_5
  try clear hcz16_6
  try clear hcz16_7
  try clear hcz16_8
  try clear hcz16_9
  try clear hcz17_0
  try clear hcz17_1
  try clear hcz17_10
  try clear hcz17_11
  try clear hcz17_2
  try clear hcz17_3
  try clear hcz17_4
  try clear hcz17_5
  try clear hcz17_6
  try clear hcz17_7
  try clear hcz17_8
  try clear hcz17_9
  try clear hcz7_0
  try clear hcz7_1
  try clear hcz7_10
  try clear hcz7_11
  try clear hcz7_2
  try clear hcz7_3
  try clear hcz7_4
  try clear hcz7_5
  try clear hcz7_6
  try clear hcz7_7
  try clear hcz7_8
  try clear hcz7_9
  try clear hfz14_0
  try clear hfz14_1
  try clear hfz14_10
  try clear hfz14_11
  try clear hfz14_2
  try clear hfz14_3
  try clear hfz14_4
  try clear hfz14_5
  try clear hfz14_6
  try clear hfz14_7
  try clear hfz14_8
  try clear hfz14_9
  try clear hfz16_0
  try clear hfz16_1
  try clear hfz16_10
  try clear hfz16_11
  try clear hfz16_2
  try clear hfz16_3
  try clear hfz16_4
  try clear hfz16_5
  try clear hfz16_6
  try clear hfz16_7
  try clear hfz16_8
  try clear hfz16_9
  try clear hfz17_0
  try clear hfz17_1
  try clear hfz17_10
  try clear hfz17_11
  try clear hfz17_2
  try clear hfz17_3
  try clear hfz17_4
  try clear hfz17_5
  try clear hfz17_6
  try clear hfz17_7
  try clear hfz17_8
  try clear hfz17_9
  try clear hfz7_0
  try clear hfz7_1
  try clear hfz7_10
  try clear hfz7_11
  try clear hfz7_2
  try clear hfz7_3
  try clear hfz7_4
  try clear hfz7_5
  try clear hfz7_6
  try clear hfz7_7
  try clear hfz7_8
  try clear hfz7_9
  obtain ⟨kq, x46_4, rfl, HA, HJ4, HO_7, BK473, HB⟩ := hcut
  cases kq with
  | zero => exact absurd HA.out (by simp [magnetolaw04_FieldLong.j0])
  | succ kj4 =>
   have H := HA.out
   clear HA
   simp only [magnetolaw04_FieldLong.j0] at H
   by_cases c18 : x46_4 = true
   ·
    subst c18
    have H1 : (if t477 = 0 then ((magnetolaw04_awake.f kj4).bind fun t479 => (some t479)) else (if (t474.length : Int) = 0 then ((magnetolaw04_awake.f kj4).bind fun t480 => (some t480)) else (none))) = some r := by rw [if_pos rfl] at H; exact H
    clear H
    have H := H1
    clear H1
    by_cases c19 : t477 = 0
    ·
     rw [if_pos c19] at H
     have c19b0 : (t477 == 0) = true := beq_iff_eq.mpr c19
     have c19b1 : (t477 != 0) = false := bne_eq_false_iff_eq.mpr c19
     clear c19
     replace H := Option.bind_eq_some_iff.mp H
     obtain ⟨t479, A200, H⟩ := H
     replace H : (some t479) = some r := H
     have A20 := Aside0.mk A200
     clear A200
     obtain rfl := Option.some.inj H
     go_wp2_with (first | (go_at_call 19; (with_reducible refine (magnetolaw04_awake.calls kj4  t479 _ A20.out).mono ?_); rintro e w21 ⟨rfl, hb⟩; have n0_ := Aside0.mk (Kd.R_below (by (with_reducible repeat (first | apply Kd.R_alloc | apply Kd.R_drewN | apply Kd.R_drew)); exact HO_7.out) hb); have n1_ := Aside0.mk (blk_below (g := gb473) (o := .cells #[.int .i64 a0_0, .bool a0_1, .bool a0_2, .int .i64 a0_3, .int .u8 a0_4, .int .u8 a0_5, .int .u8 a0_6, .int .u8 a0_7, .int .u8 a0_8, .int .u8 a0_9, .int .u8 a0_10, .int .u8 a0_11] 24 (0, 0)) (by (with_reducible repeat (first | refine blk_drewN ?_ _ | refine blk_drew ?_ | refine blk_alloc ?_ _)); exact BK473.out) hb); have n2_ := Aside0.mk (below_step (by repeat (first | (with_reducible first | exact HB.out | apply below_alloc | apply pw_below_drewN | apply below_drew1 | refine below_set ?_ GE473.out) | exact HB.out)) hb); clear HO_7; clear BK473; clear HB; have HO_7 := n0_; have BK473 := n1_; have HB := n2_; clear n0_ n1_ n2_; (try clear hb); (try clear hb2); (try clear hk); (try clear hi)))
     go_ret
     exact ⟨by first | rfl | (rw [Int.tdiv_eq_ediv_of_nonneg (by assumption)]; done) | (simp [errW_none, errW_some] <;> rfl) | (simp [*, errW_none, errW_some] <;> rfl), by repeat (first | (with_reducible first | exact HB.out | apply below_alloc | apply pw_below_drewN | apply below_drew1 | refine below_set ?_ GE473.out) | exact HB.out)⟩
    ·
     rw [if_neg c19] at H
     have c19b0 : (t477 == 0) = false := beq_eq_false_iff_ne.mpr c19
     have c19b1 : (t477 != 0) = true := bne_iff_ne.mpr c19
     by_cases c22 : (t474.length : Int) = 0
     ·
      rw [if_pos c22] at H
      have c22b0 : ((t474.length : Int) == 0) = true := beq_iff_eq.mpr c22
      have c22b1 : ((t474.length : Int) != 0) = false := bne_eq_false_iff_eq.mpr c22
      clear c22
      replace H := Option.bind_eq_some_iff.mp H
      obtain ⟨t480, A230, H⟩ := H
      replace H : (some t480) = some r := H
      have A23 := Aside0.mk A230
      clear A230
      obtain rfl := Option.some.inj H
      obtain ⟨Ao24, co24, eo24⟩ := Kd.R_slice HO_7.out
      subst eo24
      go_wp2_with (first | (go_at_call 19; (with_reducible refine (magnetolaw04_awake.calls kj4  t480 _ A23.out).mono ?_); rintro e w25 ⟨rfl, hb⟩; have n0_ := Aside0.mk (Kd.R_below (by (with_reducible repeat (first | apply Kd.R_alloc | apply Kd.R_drewN | apply Kd.R_drew)); exact HO_7.out) hb); have n1_ := Aside0.mk (blk_below (g := gb473) (o := .cells #[.int .i64 a0_0, .bool a0_1, .bool a0_2, .int .i64 a0_3, .int .u8 a0_4, .int .u8 a0_5, .int .u8 a0_6, .int .u8 a0_7, .int .u8 a0_8, .int .u8 a0_9, .int .u8 a0_10, .int .u8 a0_11] 24 (0, 0)) (by (with_reducible repeat (first | refine blk_drewN ?_ _ | refine blk_drew ?_ | refine blk_alloc ?_ _)); exact BK473.out) hb); have n2_ := Aside0.mk (below_step (by repeat (first | (with_reducible first | exact HB.out | apply below_alloc | apply pw_below_drewN | apply below_drew1 | refine below_set ?_ GE473.out) | exact HB.out)) hb); clear HO_7; clear BK473; clear HB; have HO_7 := n0_; have BK473 := n1_; have HB := n2_; clear n0_ n1_ n2_; (try clear hb); (try clear hb2); (try clear hk); (try clear hi)))
      go_ret
      exact ⟨by first | rfl | (rw [Int.tdiv_eq_ediv_of_nonneg (by assumption)]; done) | (simp [errW_none, errW_some] <;> rfl) | (simp [*, errW_none, errW_some] <;> rfl), by repeat (first | (with_reducible first | exact HB.out | apply below_alloc | apply pw_below_drewN | apply below_drew1 | refine below_set ?_ GE473.out) | exact HB.out)⟩
     ·
      rw [if_neg c22] at H
      exact absurd H (by simp)
   ·
    replace c18 := Bool.eq_false_iff.mpr c18
    subst c18
    have H1 : (if a0_1 = true then (magnetolaw04_FieldLong.j1 kj4 a1 l2 t474 35 a0_0 a0_1 a0_2 a0_3 a0_4 a0_5 a0_6 a0_7 a0_8 a0_9 a0_10 a0_11) else (magnetolaw04_FieldLong.j1 kj4 a1 l2 t474 15 a0_0 a0_1 a0_2 a0_3 a0_4 a0_5 a0_6 a0_7 a0_8 a0_9 a0_10 a0_11)) = some r := by rw [if_neg (show ¬ (false = true) by decide)] at H; exact H
    clear H
    have H := H1
    clear H1
    have HC26 := Aside0.mk H
    clear H
    have hcz27_0 : wc.cell? ⟨gb473, 0, none⟩ = some (.int .i64 a0_0) := (blk_cell BK473.out 0).trans rfl
    have hcz27_1 : wc.cell? ⟨gb473, 1, none⟩ = some (.bool a0_1) := (blk_cell BK473.out 1).trans rfl
    have hcz27_2 : wc.cell? ⟨gb473, 2, none⟩ = some (.bool a0_2) := (blk_cell BK473.out 2).trans rfl
    have hcz27_3 : wc.cell? ⟨gb473, 3, none⟩ = some (.int .i64 a0_3) := (blk_cell BK473.out 3).trans rfl
    have hcz27_4 : wc.cell? ⟨gb473, 4, none⟩ = some (.int .u8 a0_4) := (blk_cell BK473.out 4).trans rfl
    have hcz27_5 : wc.cell? ⟨gb473, 5, none⟩ = some (.int .u8 a0_5) := (blk_cell BK473.out 5).trans rfl
    have hcz27_6 : wc.cell? ⟨gb473, 6, none⟩ = some (.int .u8 a0_6) := (blk_cell BK473.out 6).trans rfl
    have hcz27_7 : wc.cell? ⟨gb473, 7, none⟩ = some (.int .u8 a0_7) := (blk_cell BK473.out 7).trans rfl
    have hcz27_8 : wc.cell? ⟨gb473, 8, none⟩ = some (.int .u8 a0_8) := (blk_cell BK473.out 8).trans rfl
    have hcz27_9 : wc.cell? ⟨gb473, 9, none⟩ = some (.int .u8 a0_9) := (blk_cell BK473.out 9).trans rfl
    have hcz27_10 : wc.cell? ⟨gb473, 10, none⟩ = some (.int .u8 a0_10) := (blk_cell BK473.out 10).trans rfl
    have hcz27_11 : wc.cell? ⟨gb473, 11, none⟩ = some (.int .u8 a0_11) := (blk_cell BK473.out 11).trans rfl
    have hfz27_0 := blk_frozen BK473.out 0
    have hfz27_1 := blk_frozen BK473.out 1
    have hfz27_2 := blk_frozen BK473.out 2
    have hfz27_3 := blk_frozen BK473.out 3
    have hfz27_4 := blk_frozen BK473.out 4
    have hfz27_5 := blk_frozen BK473.out 5
    have hfz27_6 := blk_frozen BK473.out 6
    have hfz27_7 := blk_frozen BK473.out 7
    have hfz27_8 := blk_frozen BK473.out 8
    have hfz27_9 := blk_frozen BK473.out 9
    have hfz27_10 := blk_frozen BK473.out 10
    have hfz27_11 := blk_frozen BK473.out 11
    go_upto_if 58 with (fail)
    go_cut [9] (fun v9 wc => ∃ (kq : Nat) (x9_25 : Int), v9 = .int .i64 x9_25 ∧ Aside0 (magnetolaw04_FieldLong.j1 kq a1 l2 t474 x9_25 a0_0 a0_1 a0_2 a0_3 a0_4 a0_5 a0_6 a0_7 a0_8 a0_9 a0_10 a0_11 = some r) ∧ Aside0 (kq ≤ kj4) ∧ Aside0 (Kd.R (Kd.int .i64) 3 wc w.heap.size (fun _ => True) v475 t474) ∧ Aside0 (wc.heap[gb473]? = some (.cells #[.int .i64 a0_0, .bool a0_1, .bool a0_2, .int .i64 a0_3, .int .u8 a0_4, .int .u8 a0_5, .int .u8 a0_6, .int .u8 a0_7, .int .u8 a0_8, .int .u8 a0_9, .int .u8 a0_10, .int .u8 a0_11] 24 (0, 0))) ∧ Aside0 (Below w.heap.size w wc))
    case first =>
     have H := HC26.out
     clear HC26
     by_cases c28 : a0_1 = true
     ·
      subst c28
      have H1 : (magnetolaw04_FieldLong.j1 kj4 a1 l2 t474 35 a0_0 true a0_2 a0_3 a0_4 a0_5 a0_6 a0_7 a0_8 a0_9 a0_10 a0_11) = some r := by rw [if_pos rfl] at H; exact H
      clear H
      have H := H1
      clear H1
      have H' := Aside0.mk H
      clear H
      go_wp2
      go_meet
      case rel => exact ⟨_, (35), (by first | rfl | (rw [Int.tdiv_eq_ediv_of_nonneg (by assumption)]; done) | (simp; done) | (simp [*]; done)), H', ⟨by have := HJ4.out; first | omega | exact Nat.le_refl _⟩, ⟨by (with_reducible repeat (first | apply Kd.R_alloc | apply Kd.R_drewN | apply Kd.R_drew)); exact HO_7.out⟩, ⟨by (with_reducible repeat (first | refine blk_drewN ?_ _ | refine blk_drew ?_ | refine blk_alloc ?_ _)); exact BK473.out⟩, ⟨by repeat (first | (with_reducible first | exact HB.out | apply below_alloc | apply pw_below_drewN | apply below_drew1 | refine below_set ?_ GE473.out) | exact HB.out)⟩⟩
     ·
      replace c28 := Bool.eq_false_iff.mpr c28
      subst c28
      have H1 : (magnetolaw04_FieldLong.j1 kj4 a1 l2 t474 15 a0_0 false a0_2 a0_3 a0_4 a0_5 a0_6 a0_7 a0_8 a0_9 a0_10 a0_11) = some r := by rw [if_neg (show ¬ (false = true) by decide)] at H; exact H
      clear H
      have H := H1
      clear H1
      have H' := Aside0.mk H
      clear H
      go_wp2
      go_meet
      case rel => exact ⟨_, (15), (by first | rfl | (rw [Int.tdiv_eq_ediv_of_nonneg (by assumption)]; done) | (simp; done) | (simp [*]; done)), H', ⟨by have := HJ4.out; first | omega | exact Nat.le_refl _⟩, ⟨by (with_reducible repeat (first | apply Kd.R_alloc | apply Kd.R_drewN | apply Kd.R_drew)); exact HO_7.out⟩, ⟨by (with_reducible repeat (first | refine blk_drewN ?_ _ | refine blk_drew ?_ | refine blk_alloc ?_ _)); exact BK473.out⟩, ⟨by repeat (first | (with_reducible first | exact HB.out | apply below_alloc | apply pw_below_drewN | apply below_drew1 | refine below_set ?_ GE473.out) | exact HB.out)⟩⟩
    case rest =>
     clear HC26
     try clear c1
     try clear c2
     try clear p2
     try clear c6
     try clear c9
     try clear c9b0
     try clear c9b1
     try clear c10
     try clear c10b0
     try clear c11
     try clear c11b0
     try clear c12
     try clear c12b0
     try clear c12b1
     try clear c13
     try clear c13b0
     try clear c13b1
     try clear c16
     try clear c18
     try clear c19
     try clear c19b0
     try clear c19b1
     try clear c22
     try clear c22b0
     try clear c22b1
     try clear c28
     try clear hcz14_0
     try clear hcz14_1
     try clear hcz14_10
     try clear hcz14_11
     try clear hcz14_2
     try clear hcz14_3
     try clear hcz14_4
     try clear hcz14_5
     try clear hcz14_6
     try clear hcz14_7
     try clear hcz14_8
     try clear hcz14_9
     try clear hcz16_0
     try clear hcz16_1
     try clear hcz16_10
     try clear hcz16_11
     try clear hcz16_2
     try clear hcz16_3
     try clear hcz16_4
     try clear hcz16_5
     try clear hcz16_6
     try clear hcz16_7
     try clear hcz16_8
     try clear hcz16_9
     try clear hcz17_0
     try clear hcz17_1
     try clear hcz17_10
     try clear hcz17_11
     try clear hcz17_2
     try clear hcz17_3
     try clear hcz17_4
     try clear hcz17_5
     try clear hcz17_6
     try clear hcz17_7
     try clear hcz17_8
     try clear hcz17_9
     try clear hcz27_0
     try clear hcz27_1
     try clear hcz27_10
     try clear hcz27_11
     try clear hcz27_2
     try clear hcz27_3
     try clear hcz27_4
     try clear hcz27_5
     try clear hcz27_6
     try clear hcz27_7
     try clear hcz27_8
     try clear hcz27_9
     try clear hcz7_0
     try clear hcz7_1
     try clear hcz7_10
     try clear hcz7_11
     try clear hcz7_2
     try clear hcz7_3
     try clear hcz7_4
     try clear hcz7_5
     try clear hcz7_6
     try clear hcz7_7
     try clear hcz7_8
     try clear hcz7_9
     try clear hfz14_0
     try clear hfz14_1
     try clear hfz14_10
     try clear hfz14_11
     try clear hfz14_2
     try clear hfz14_3
     try clear hfz14_4
     try clear hfz14_5
     try clear hfz14_6
     try clear hfz14_7
     try clear hfz14_8
     try clear hfz14_9
     try clear hfz16_0
     try clear hfz16_1
     try clear hfz16_10
     try clear hfz16_11
     try clear hfz16_2
     try clear hfz16_3
     try clear hfz16_4
     try clear hfz16_5
     try clear hfz16_6
     try clear hfz16_7
     try clear hfz16_8
     try clear hfz16_9
     try clear hfz17_0
     try clear hfz17_1
     try clear hfz17_10
     try clear hfz17_11
     try clear hfz17_2
     try clear hfz17_3
     try clear hfz17_4
     try clear hfz17_5
     try clear hfz17_6
     try clear hfz17_7
     try clear hfz17_8
     try clear hfz17_9
     try clear hfz27_0
     try clear hfz27_1
     try clear hfz27_10
     try clear hfz27_11
     try clear hfz27_2
     try clear hfz27_3
     try clear hfz27_4
     try clear hfz27_5
     try clear hfz27_6
     try clear hfz27_7
     try clear hfz27_8
     try clear hfz27_9
     try clear hfz7_0
     try clear hfz7_1
     try clear hfz7_10
     try clear hfz7_11
     try clear hfz7_2
     try clear hfz7_3
     try clear hfz7_4
     try clear hfz7_5
     try clear hfz7_6
     try clear hfz7_7
     try clear hfz7_8
     try clear hfz7_9
     try clear p2
     obtain ⟨kq, x9_25, rfl, HA, HJ25, HO_7, BK473, HB⟩ := hcut
     cases kq with
     | zero => exact absurd HA.out (by simp [magnetolaw04_FieldLong.j1])
     | succ kj25 =>
      have H := HA.out
      clear HA
      simp only [magnetolaw04_FieldLong.j1] at H
      by_cases c29 : (wrap64 (x9_25 + 4)) > (t474.length : Int)
      ·
       rw [if_pos c29] at H
       exact absurd H (by simp)
      ·
       rw [if_neg c29] at H
       have c29b0 : decide ((t474.length : Int) < (wrap64 (x9_25 + 4))) = false := decide_eq_false c29
       clear c29
       have H' := Aside0.mk H
       clear H
       obtain ⟨Ao30, co30, eo30⟩ := Kd.R_slice HO_7.out
       subst eo30
       go_wp2
       go_loopg [10] kj25 (fun kq v10 w' => ∃ (x7_3 : List Int) (x10_3 : Int), v10 = .int .i64 x10_3 ∧ Aside0 (magnetolaw04_FieldLong.l0 kq a1 l2 x7_3 x9_25 x10_3 a0_0 a0_1 a0_2 a0_3 a0_4 a0_5 a0_6 a0_7 a0_8 a0_9 a0_10 a0_11 = some r) ∧ Aside0 (kq ≤ kj25) ∧ Aside0 (Kd.R (Kd.int .i64) 3 w' w.heap.size (fun _ => True) (.slice Ao30 t474.length co30) x7_3) ∧ Aside0 (w'.heap[gb473]? = some (.cells #[.int .i64 a0_0, .bool a0_1, .bool a0_2, .int .i64 a0_3, .int .u8 a0_4, .int .u8 a0_5, .int .u8 a0_6, .int .u8 a0_7, .int .u8 a0_8, .int .u8 a0_9, .int .u8 a0_10, .int .u8 a0_11] 24 (0, 0))) ∧ Aside0 (Below w.heap.size w w'))
       case atStart => exact ⟨(t474), (0), (by first | rfl | (rw [Int.tdiv_eq_ediv_of_nonneg (by assumption)]; done) | (simp; done) | (simp [*]; done)), H', ⟨Nat.le_refl _⟩, ⟨by (with_reducible repeat (first | apply Kd.R_alloc | apply Kd.R_drewN | apply Kd.R_drew)); exact HO_7.out⟩, ⟨by (with_reducible repeat (first | refine blk_drewN ?_ _ | refine blk_drew ?_ | refine blk_alloc ?_ _)); exact BK473.out⟩, ⟨by repeat (first | (with_reducible first | exact HB.out | apply below_alloc | apply pw_below_drewN | apply below_drew1 | refine below_set ?_ GE473.out) | exact HB.out)⟩⟩
       case round =>
        clear H'
        try clear c1
        try clear c2
        try clear p2
        try clear c6
        try clear p6
        try clear c9
        try clear c9b0
        try clear c9b1
        try clear c10
        try clear c10b0
        try clear c11
        try clear c11b0
        try clear c12
        try clear c12b0
        try clear c12b1
        try clear c13
        try clear c13b0
        try clear c13b1
        try clear c16
        try clear c18
        try clear c19
        try clear c19b0
        try clear c19b1
        try clear c22
        try clear c22b0
        try clear c22b1
        try clear c28
        try clear c29
        try clear c29b0
        try clear hcz14_0
        try clear hcz14_1
        try clear hcz14_10
        try clear hcz14_11
        try clear hcz14_2
        try clear hcz14_3
        try clear hcz14_4
        try clear hcz14_5
        try clear hcz14_6
        try clear hcz14_7
        try clear hcz14_8
        try clear hcz14_9
        try clear hcz16_0
        try clear hcz16_1
        try clear hcz16_10
        try clear hcz16_11
        try clear hcz16_2
        try clear hcz16_3
        try clear hcz16_4
        try clear hcz16_5
        try clear hcz16_6
        try clear hcz16_7
        try clear hcz16_8
        try clear hcz16_9
        try clear hcz17_0
        try clear hcz17_1
        try clear hcz17_10
        try clear hcz17_11
        try clear hcz17_2
        try clear hcz17_3
        try clear hcz17_4
        try clear hcz17_5
        try clear hcz17_6
        try clear hcz17_7
        try clear hcz17_8
        try clear hcz17_9
        try clear hcz27_0
        try clear hcz27_1
        try clear hcz27_10
        try clear hcz27_11
        try clear hcz27_2
        try clear hcz27_3
        try clear hcz27_4
        try clear hcz27_5
        try clear hcz27_6
        try clear hcz27_7
        try clear hcz27_8
        try clear hcz27_9
        try clear hcz7_0
        try clear hcz7_1
        try clear hcz7_10
        try clear hcz7_11
        try clear hcz7_2
        try clear hcz7_3
        try clear hcz7_4
        try clear hcz7_5
        try clear hcz7_6
        try clear hcz7_7
        try clear hcz7_8
        try clear hcz7_9
        try clear hfz14_0
        try clear hfz14_1
        try clear hfz14_10
        try clear hfz14_11
        try clear hfz14_2
        try clear hfz14_3
        try clear hfz14_4
        try clear hfz14_5
        try clear hfz14_6
        try clear hfz14_7
        try clear hfz14_8
        try clear hfz14_9
        try clear hfz16_0
        try clear hfz16_1
        try clear hfz16_10
        try clear hfz16_11
        try clear hfz16_2
        try clear hfz16_3
        try clear hfz16_4
        try clear hfz16_5
        try clear hfz16_6
        try clear hfz16_7
        try clear hfz16_8
        try clear hfz16_9
        try clear hfz17_0
        try clear hfz17_1
        try clear hfz17_10
        try clear hfz17_11
        try clear hfz17_2
        try clear hfz17_3
        try clear hfz17_4
        try clear hfz17_5
        try clear hfz17_6
        try clear hfz17_7
        try clear hfz17_8
        try clear hfz17_9
        try clear hfz27_0
        try clear hfz27_1
        try clear hfz27_10
        try clear hfz27_11
        try clear hfz27_2
        try clear hfz27_3
        try clear hfz27_4
        try clear hfz27_5
        try clear hfz27_6
        try clear hfz27_7
        try clear hfz27_8
        try clear hfz27_9
        try clear hfz7_0
        try clear hfz7_1
        try clear hfz7_10
        try clear hfz7_11
        try clear hfz7_2
        try clear hfz7_3
        try clear hfz7_4
        try clear hfz7_5
        try clear hfz7_6
        try clear hfz7_7
        try clear hfz7_8
        try clear hfz7_9
        try clear p2
        obtain ⟨x7_3, x10_3, rfl, HA, HK3, HO_7, BK473, HB⟩ := hrel
        have hl7_3 := (Kd.R_reads' HO_7.out).1
        rw [hl7_3] at HO_7
        (try simp only [hl7_3])
        (try simp only [hl7_3] at BK473)
        cases gk with
        | zero => exact absurd HA.out (by simp [magnetolaw04_FieldLong.l0])
        | succ k3 =>
         have H := HA.out
         clear HA
         simp only [magnetolaw04_FieldLong.l0] at H
         by_cases c31 : x10_3 < 4
         ·
          rw [if_pos c31] at H
          have c31b0 : decide (x10_3 < 4) = true := decide_eq_true c31
          clear c31
          obtain ⟨ji32, hji32⟩ : ∃ j_ : Int, (wrap64 (3 - x10_3)) = j_ := ⟨_, rfl⟩
          replace H : (if 0 ≤ (ji32) then (if 0 ≤ (wrap64 (x9_25 + x10_3)) then (if (wrap64 (x9_25 + x10_3)) < (x7_3.length : Int) then (magnetolaw04_FieldLong.l0 k3 a1 l2 (x7_3.set ((wrap64 (x9_25 + x10_3)) : Int).toNat (Int.tmod (shr .i64 a1 (ji32)) 2)) x9_25 (wrap64 (x10_3 + 1)) a0_0 a0_1 a0_2 a0_3 a0_4 a0_5 a0_6 a0_7 a0_8 a0_9 a0_10 a0_11) else (none)) else (none)) else (none)) = some r := by first | (rw [hji32] at H; exact H) | (simp only [hji32] at H ⊢; exact H)
          have hji32w : (IntKind.i64.wrap (3 - x10_3)) = ji32 := (i64_w _).trans hji32
          have hji32v := hji32
          have hji32x := hji32w
          (try simp only [hl7_3] at hji32v hji32x)
          by_cases c33 : 0 ≤ (ji32)
          ·
           rw [if_pos c33] at H
           have c33b0 := eq_true c33
           have c33b1 : decide (0 ≤ (ji32)) = true := decide_eq_true c33
           clear c33
           obtain ⟨ji34, hji34⟩ : ∃ j_ : Int, (shr .i64 a1 (ji32)) = j_ := ⟨_, rfl⟩
           replace H : (if 0 ≤ (wrap64 (x9_25 + x10_3)) then (if (wrap64 (x9_25 + x10_3)) < (x7_3.length : Int) then (magnetolaw04_FieldLong.l0 k3 a1 l2 (x7_3.set ((wrap64 (x9_25 + x10_3)) : Int).toNat (Int.tmod (ji34) 2)) x9_25 (wrap64 (x10_3 + 1)) a0_0 a0_1 a0_2 a0_3 a0_4 a0_5 a0_6 a0_7 a0_8 a0_9 a0_10 a0_11) else (none)) else (none)) = some r := by first | (rw [hji34] at H; exact H) | (simp only [hji34] at H ⊢; exact H)
           have hji34_ : (a1 / 2 ^ min (ji32).toNat 64) = ji34 := hji34
           have hji34z : (ji32) ≤ 64 → (a1 / 2 ^ (ji32).toNat) = ji34 := shr_small hji34
           obtain ⟨ji35, hji35⟩ : ∃ j_ : Int, (wrap64 (x9_25 + x10_3)) = j_ := ⟨_, rfl⟩
           replace H : (if 0 ≤ (ji35) then (if (ji35) < (x7_3.length : Int) then (magnetolaw04_FieldLong.l0 k3 a1 l2 (x7_3.set ((ji35) : Int).toNat (Int.tmod (ji34) 2)) x9_25 (wrap64 (x10_3 + 1)) a0_0 a0_1 a0_2 a0_3 a0_4 a0_5 a0_6 a0_7 a0_8 a0_9 a0_10 a0_11) else (none)) else (none)) = some r := by first | (rw [hji35] at H; exact H) | (simp only [hji35] at H ⊢; exact H)
           have hji35w : (IntKind.i64.wrap (x9_25 + x10_3)) = ji35 := (i64_w _).trans hji35
           have hji35v := hji35
           have hji35x := hji35w
           (try simp only [hl7_3] at hji35v hji35x)
           by_cases c36 : 0 ≤ (ji35)
           ·
            rw [if_pos c36] at H
            have c36b0 : decide (0 ≤ (ji35)) = true := decide_eq_true c36
            clear c36
            by_cases c37 : (ji35) < (x7_3.length : Int)
            ·
             rw [if_pos c37] at H
             have c37b0 : decide ((ji35) < (x7_3.length : Int)) = true := decide_eq_true c37
             clear c37
             obtain ⟨y481, hy481⟩ : ∃ y_ : List Int, y_ = (x7_3.set ((ji35) : Int).toNat (Int.tmod (ji34) 2)) := ⟨_, rfl⟩
             replace H : (magnetolaw04_FieldLong.l0 k3 a1 l2 y481 x9_25 (wrap64 (x10_3 + 1)) a0_0 a0_1 a0_2 a0_3 a0_4 a0_5 a0_6 a0_7 a0_8 a0_9 a0_10 a0_11) = some r := by first | (rw [hy481]; with_reducible exact H) | (have H2_ := (Option.bind_some _ _).symm.trans H; rw [hy481]; with_reducible exact H2_) | (have H2_ := (Option.bind_some _ _).symm.trans H; with_reducible exact H2_) | with_reducible exact H | (rw [hy481]; exact H) | exact H
             have Ny481 := Aside0.mk hy481
             clear hy481
             have H' := Aside0.mk H
             clear H
             have p38 : 0 ≤ ((ji35) : Int) := of_decide_eq_true (by first | (with_reducible assumption) | assumption)
             have q38 : ((ji35) : Int) < ((x7_3.length : Int) : Int) := of_decide_eq_true (by first | (with_reducible assumption) | assumption)
             obtain ⟨go38, co38, eo38, gb38, gl38, cl38, HG38⟩ := Kd.R_form HO_7.out (by omega)
             (first | cases eo38 | (injection eo38 with ea_ en_ ec_; (first | subst ea_ | (injection ea_ with ea_; subst ea_)); subst ec_; clear en_))
             have GB38 := Aside0.mk gb38
             have GG38 := Aside0.mk HG38
             clear gb38 gl38 HG38
             obtain ⟨hx38_0, hf38_0⟩ := Kd.R_celln 0 HO_7.out ((ji35) : Int) p38 q38
             replace p38 := eq_true p38
             replace q38 := eq_true q38
             have HP39 := Kd.R_putg HO_7.out ((ji35) : Int) (Int.tmod (ji34) 2)
             go_wp2_with (first | ((with_reducible refine gate_store (t := 3) (p := 77) rfl ?_); refine store_event (t := 3) (p := 77) (v := ?vo_w40) (w1 := (wr.setCell ⟨go38, ((ji35) : Int).toNat, none⟩ (.int .i64 (Int.tmod (ji34) 2)))) ?hg ?ho ?hn ?hr ?_; (case ho => rfl); (case hg => rfl); (case hn => rfl); (case hr => first | (go_simp; done) | (go_simp; rfl)); intro w40 hw; have hg : wr.grownBy w40 (some go38) := (by rw [hw]; exact HP39.2); have hp_ : Kd.R (Kd.int .i64) 3 w40 w.heap.size (fun _ => True) (.slice (some ⟨go38, 0, none⟩) x7_3.length co30) y481 := (by rw [hw, Ny481.out]; exact HP39.1); clear HP39; have n0_ := Aside0.mk (hp_); have n1_ := Aside0.mk (blk_grown (g := gb473) (o := .cells #[.int .i64 a0_0, .bool a0_1, .bool a0_2, .int .i64 a0_3, .int .u8 a0_4, .int .u8 a0_5, .int .u8 a0_6, .int .u8 a0_7, .int .u8 a0_8, .int .u8 a0_9, .int .u8 a0_10, .int .u8 a0_11] 24 (0, 0)) (by (with_reducible repeat (first | refine blk_drewN ?_ _ | refine blk_drew ?_ | refine blk_alloc ?_ _)); exact BK473.out) hg (Kd.R_ne HO_7.out BK473.out (by decide))); have n2_ := Aside0.mk ((by rw [hw]; exact below_set (HB.out) GB38.out : Below w.heap.size w w40)); clear HO_7; clear BK473; clear HB; have HO_7 := n0_; have BK473 := n1_; have HB := n2_; clear n0_ n1_ n2_; clear hg hw hp_))
             (try simp only [← hl7_3])
             go_roundg k3
             case measure => have := HJ4.out; have := HJ25.out; have := HK3.out; omega
             case rel => exact ⟨(y481), (wrap64 (x10_3 + 1)), (by first | rfl | (rw [Int.tdiv_eq_ediv_of_nonneg (by assumption)]; done) | (simp; done) | (simp [*]; done)), H', ⟨by have := HJ4.out; have := HJ25.out; have := HK3.out; omega⟩, ⟨by (try simp only [hl7_3]); (with_reducible repeat (first | apply Kd.R_alloc | apply Kd.R_drewN | apply Kd.R_drew)); exact HO_7.out⟩, ⟨by (try simp only [hl7_3]); (with_reducible repeat (first | refine blk_drewN ?_ _ | refine blk_drew ?_ | refine blk_alloc ?_ _)); exact BK473.out⟩, ⟨by repeat (first | (with_reducible first | exact HB.out | apply below_alloc | apply pw_below_drewN | apply below_drew1 | refine below_set ?_ GE473.out) | exact HB.out)⟩⟩
            ·
             rw [if_neg c37] at H
             exact absurd H (by simp)
           ·
            rw [if_neg c36] at H
            exact absurd H (by simp)
          ·
           rw [if_neg c33] at H
           exact absurd H (by simp)
         ·
          rw [if_neg c31] at H
          have c31b0 : decide (x10_3 < 4) = false := decide_eq_false c31
          clear c31
          replace H := Option.bind_eq_some_iff.mp H
          obtain ⟨⟨t482, t483⟩, A410, H⟩ := H
          replace H : ((field_Frame.f k3 x7_3).bind fun bt484 => ((some (([] : List Int) : List Int)).bind fun y498 => (if y498.length + x7_3.length < 17592186044416 then ((some (y498 ++ x7_3 : List Int)).bind fun y501 => (if y501.length + l2.length < 17592186044416 then ((field_Frame.f k3 (y501 ++ l2)).bind fun bt507 => (if t483 = 0 then (if t482 = (x7_3.length : Int) then (if (bt484.1 == a0_0 && (bt484.2.1 == a0_1 && (bt484.2.2.1 == a0_2 && (bt484.2.2.2.1 == a0_3 && ((bt484.2.2.2.2.1 == a0_4 && (bt484.2.2.2.2.2.1 == a0_5 && (bt484.2.2.2.2.2.2.1 == a0_6 && (bt484.2.2.2.2.2.2.2.1 == a0_7 && (bt484.2.2.2.2.2.2.2.2.1 == a0_8 && (bt484.2.2.2.2.2.2.2.2.2.1 == a0_9 && (bt484.2.2.2.2.2.2.2.2.2.2.1 == a0_10 && (bt484.2.2.2.2.2.2.2.2.2.2.2.1 == a0_11))))))))))))) = true then (if bt484.2.2.2.2.2.2.2.2.2.2.2.2 = 0 then (if (bt507.1 == a0_0 && (bt507.2.1 == a0_1 && (bt507.2.2.1 == a0_2 && (bt507.2.2.2.1 == a0_3 && ((bt507.2.2.2.2.1 == a0_4 && (bt507.2.2.2.2.2.1 == a0_5 && (bt507.2.2.2.2.2.2.1 == a0_6 && (bt507.2.2.2.2.2.2.2.1 == a0_7 && (bt507.2.2.2.2.2.2.2.2.1 == a0_8 && (bt507.2.2.2.2.2.2.2.2.2.1 == a0_9 && (bt507.2.2.2.2.2.2.2.2.2.2.1 == a0_10 && (bt507.2.2.2.2.2.2.2.2.2.2.2.1 == a0_11))))))))))))) = true then (if bt507.2.2.2.2.2.2.2.2.2.2.2.2 = 0 then ((magnetolaw04_awake.f k3).bind fun t521 => (some t521)) else (none)) else (none)) else (none)) else (none)) else (none)) else (none))) else (none))) else (none)))) = some r := H
          have A41 := Aside0.mk A410
          clear A410
          replace H := Option.bind_eq_some_iff.mp H
          obtain ⟨⟨t484, t485, t486, t487, t488, t489, t490, t491, t492, t493, t494, t495, t496⟩, A420, H⟩ := H
          replace H : ((some (([] : List Int) : List Int)).bind fun y498 => (if y498.length + x7_3.length < 17592186044416 then ((some (y498 ++ x7_3 : List Int)).bind fun y501 => (if y501.length + l2.length < 17592186044416 then ((field_Frame.f k3 (y501 ++ l2)).bind fun bt507 => (if t483 = 0 then (if t482 = (x7_3.length : Int) then (if (t484 == a0_0 && (t485 == a0_1 && (t486 == a0_2 && (t487 == a0_3 && ((t488 == a0_4 && (t489 == a0_5 && (t490 == a0_6 && (t491 == a0_7 && (t492 == a0_8 && (t493 == a0_9 && (t494 == a0_10 && (t495 == a0_11))))))))))))) = true then (if t496 = 0 then (if (bt507.1 == a0_0 && (bt507.2.1 == a0_1 && (bt507.2.2.1 == a0_2 && (bt507.2.2.2.1 == a0_3 && ((bt507.2.2.2.2.1 == a0_4 && (bt507.2.2.2.2.2.1 == a0_5 && (bt507.2.2.2.2.2.2.1 == a0_6 && (bt507.2.2.2.2.2.2.2.1 == a0_7 && (bt507.2.2.2.2.2.2.2.2.1 == a0_8 && (bt507.2.2.2.2.2.2.2.2.2.1 == a0_9 && (bt507.2.2.2.2.2.2.2.2.2.2.1 == a0_10 && (bt507.2.2.2.2.2.2.2.2.2.2.2.1 == a0_11))))))))))))) = true then (if bt507.2.2.2.2.2.2.2.2.2.2.2.2 = 0 then ((magnetolaw04_awake.f k3).bind fun t521 => (some t521)) else (none)) else (none)) else (none)) else (none)) else (none)) else (none))) else (none))) else (none))) = some r := H
          have A42 := Aside0.mk A420
          clear A420
          obtain ⟨y498, hy498⟩ : ∃ y_ : List Int, y_ = (([] : List Int)) := ⟨_, rfl⟩
          replace H : (if y498.length + x7_3.length < 17592186044416 then ((some (y498 ++ x7_3 : List Int)).bind fun y501 => (if y501.length + l2.length < 17592186044416 then ((field_Frame.f k3 (y501 ++ l2)).bind fun bt507 => (if t483 = 0 then (if t482 = (x7_3.length : Int) then (if (t484 == a0_0 && (t485 == a0_1 && (t486 == a0_2 && (t487 == a0_3 && ((t488 == a0_4 && (t489 == a0_5 && (t490 == a0_6 && (t491 == a0_7 && (t492 == a0_8 && (t493 == a0_9 && (t494 == a0_10 && (t495 == a0_11))))))))))))) = true then (if t496 = 0 then (if (bt507.1 == a0_0 && (bt507.2.1 == a0_1 && (bt507.2.2.1 == a0_2 && (bt507.2.2.2.1 == a0_3 && ((bt507.2.2.2.2.1 == a0_4 && (bt507.2.2.2.2.2.1 == a0_5 && (bt507.2.2.2.2.2.2.1 == a0_6 && (bt507.2.2.2.2.2.2.2.1 == a0_7 && (bt507.2.2.2.2.2.2.2.2.1 == a0_8 && (bt507.2.2.2.2.2.2.2.2.2.1 == a0_9 && (bt507.2.2.2.2.2.2.2.2.2.2.1 == a0_10 && (bt507.2.2.2.2.2.2.2.2.2.2.2.1 == a0_11))))))))))))) = true then (if bt507.2.2.2.2.2.2.2.2.2.2.2.2 = 0 then ((magnetolaw04_awake.f k3).bind fun t521 => (some t521)) else (none)) else (none)) else (none)) else (none)) else (none)) else (none))) else (none))) else (none)) = some r := by first | (rw [hy498]; with_reducible exact H) | (have H2_ := (Option.bind_some _ _).symm.trans H; rw [hy498]; with_reducible exact H2_) | (have H2_ := (Option.bind_some _ _).symm.trans H; with_reducible exact H2_) | with_reducible exact H | (rw [hy498]; exact H) | exact H
          have Ny498 := Aside0.mk hy498
          clear hy498
          by_cases c43 : y498.length + x7_3.length < 17592186044416
          ·
           rw [if_pos c43] at H
           have LMc43 := Aside0.mk c43
           clear c43
           obtain ⟨y501, hy501⟩ : ∃ y_ : List Int, y_ = (y498 ++ x7_3) := ⟨_, rfl⟩
           replace H : (if y501.length + l2.length < 17592186044416 then ((field_Frame.f k3 (y501 ++ l2)).bind fun bt507 => (if t483 = 0 then (if t482 = (x7_3.length : Int) then (if (t484 == a0_0 && (t485 == a0_1 && (t486 == a0_2 && (t487 == a0_3 && ((t488 == a0_4 && (t489 == a0_5 && (t490 == a0_6 && (t491 == a0_7 && (t492 == a0_8 && (t493 == a0_9 && (t494 == a0_10 && (t495 == a0_11))))))))))))) = true then (if t496 = 0 then (if (bt507.1 == a0_0 && (bt507.2.1 == a0_1 && (bt507.2.2.1 == a0_2 && (bt507.2.2.2.1 == a0_3 && ((bt507.2.2.2.2.1 == a0_4 && (bt507.2.2.2.2.2.1 == a0_5 && (bt507.2.2.2.2.2.2.1 == a0_6 && (bt507.2.2.2.2.2.2.2.1 == a0_7 && (bt507.2.2.2.2.2.2.2.2.1 == a0_8 && (bt507.2.2.2.2.2.2.2.2.2.1 == a0_9 && (bt507.2.2.2.2.2.2.2.2.2.2.1 == a0_10 && (bt507.2.2.2.2.2.2.2.2.2.2.2.1 == a0_11))))))))))))) = true then (if bt507.2.2.2.2.2.2.2.2.2.2.2.2 = 0 then ((magnetolaw04_awake.f k3).bind fun t521 => (some t521)) else (none)) else (none)) else (none)) else (none)) else (none)) else (none))) else (none)) = some r := by first | (rw [hy501]; with_reducible exact H) | (have H2_ := (Option.bind_some _ _).symm.trans H; rw [hy501]; with_reducible exact H2_) | (have H2_ := (Option.bind_some _ _).symm.trans H; with_reducible exact H2_) | with_reducible exact H | (rw [hy501]; exact H) | exact H
           have Ny501 := Aside0.mk hy501
           clear hy501
           by_cases c44 : y501.length + l2.length < 17592186044416
           ·
            rw [if_pos c44] at H
            have LMc44 := Aside0.mk c44
            clear c44
            obtain ⟨y504, hy504⟩ : ∃ y_ : List Int, y_ = (y501 ++ l2) := ⟨_, rfl⟩
            replace H : ((field_Frame.f k3 y504).bind fun bt507 => (if t483 = 0 then (if t482 = (x7_3.length : Int) then (if (t484 == a0_0 && (t485 == a0_1 && (t486 == a0_2 && (t487 == a0_3 && ((t488 == a0_4 && (t489 == a0_5 && (t490 == a0_6 && (t491 == a0_7 && (t492 == a0_8 && (t493 == a0_9 && (t494 == a0_10 && (t495 == a0_11))))))))))))) = true then (if t496 = 0 then (if (bt507.1 == a0_0 && (bt507.2.1 == a0_1 && (bt507.2.2.1 == a0_2 && (bt507.2.2.2.1 == a0_3 && ((bt507.2.2.2.2.1 == a0_4 && (bt507.2.2.2.2.2.1 == a0_5 && (bt507.2.2.2.2.2.2.1 == a0_6 && (bt507.2.2.2.2.2.2.2.1 == a0_7 && (bt507.2.2.2.2.2.2.2.2.1 == a0_8 && (bt507.2.2.2.2.2.2.2.2.2.1 == a0_9 && (bt507.2.2.2.2.2.2.2.2.2.2.1 == a0_10 && (bt507.2.2.2.2.2.2.2.2.2.2.2.1 == a0_11))))))))))))) = true then (if bt507.2.2.2.2.2.2.2.2.2.2.2.2 = 0 then ((magnetolaw04_awake.f k3).bind fun t521 => (some t521)) else (none)) else (none)) else (none)) else (none)) else (none)) else (none))) = some r := by first | (rw [hy504]; with_reducible exact H) | (have H2_ := (Option.bind_some _ _).symm.trans H; rw [hy504]; with_reducible exact H2_) | (have H2_ := (Option.bind_some _ _).symm.trans H; with_reducible exact H2_) | with_reducible exact H | (rw [hy504]; exact H) | exact H
            have Ny504 := Aside0.mk hy504
            clear hy504
            replace H := Option.bind_eq_some_iff.mp H
            obtain ⟨⟨t507, t508, t509, t510, t511, t512, t513, t514, t515, t516, t517, t518, t519⟩, A450, H⟩ := H
            replace H : (if t483 = 0 then (if t482 = (x7_3.length : Int) then (if (t484 == a0_0 && (t485 == a0_1 && (t486 == a0_2 && (t487 == a0_3 && ((t488 == a0_4 && (t489 == a0_5 && (t490 == a0_6 && (t491 == a0_7 && (t492 == a0_8 && (t493 == a0_9 && (t494 == a0_10 && (t495 == a0_11))))))))))))) = true then (if t496 = 0 then (if (t507 == a0_0 && (t508 == a0_1 && (t509 == a0_2 && (t510 == a0_3 && ((t511 == a0_4 && (t512 == a0_5 && (t513 == a0_6 && (t514 == a0_7 && (t515 == a0_8 && (t516 == a0_9 && (t517 == a0_10 && (t518 == a0_11))))))))))))) = true then (if t519 = 0 then ((magnetolaw04_awake.f k3).bind fun t521 => (some t521)) else (none)) else (none)) else (none)) else (none)) else (none)) else (none)) = some r := H
            have A45 := Aside0.mk A450
            clear A450
            by_cases c46 : t483 = 0
            ·
             rw [if_pos c46] at H
             have c46b0 : (t483 == 0) = true := beq_iff_eq.mpr c46
             have c46b1 : (t483 != 0) = false := bne_eq_false_iff_eq.mpr c46
             clear c46
             by_cases c47 : t482 = (x7_3.length : Int)
             ·
              rw [if_pos c47] at H
              have c47b0 : (t482 == (x7_3.length : Int)) = true := beq_iff_eq.mpr c47
              have c47b1 : (t482 != (x7_3.length : Int)) = false := bne_eq_false_iff_eq.mpr c47
              clear c47
              by_cases c48 : (t484 == a0_0 && (t485 == a0_1 && (t486 == a0_2 && (t487 == a0_3 && ((t488 == a0_4 && (t489 == a0_5 && (t490 == a0_6 && (t491 == a0_7 && (t492 == a0_8 && (t493 == a0_9 && (t494 == a0_10 && (t495 == a0_11))))))))))))) = true
              ·
               rw [if_pos c48] at H
               have c48b0 : (t484 == a0_0 && (t485 == a0_1 && (t486 == a0_2 && (t487 == a0_3 && ((t488 == a0_4 && (t489 == a0_5 && (t490 == a0_6 && (t491 == a0_7 && (t492 == a0_8 && (t493 == a0_9 && (t494 == a0_10 && (t495 == a0_11))))))))))))) = true := c48
               (try (have c48b1 : decide (t484 = a0_0 && (t485 == a0_1 && (t486 == a0_2 && (t487 == a0_3 && ((t488 == a0_4 && (t489 == a0_5 && (t490 == a0_6 && (t491 == a0_7 && (t492 == a0_8 && (t493 == a0_9 && (t494 == a0_10 && (t495 == a0_11))))))))))))) = true := by simpa using c48))
               (try (have c48b2 : (t484 == a0_0 && (t485 == a0_1 && (t486 == a0_2 && (t487 == a0_3 && ((t488 == a0_4 && (t489 == a0_5 && (t490 == a0_6 && (t491 == a0_7 && (t492 == a0_8 && (t493 == a0_9 && (t494 == a0_10 && (t495 == a0_11))))))))))))) = true := by simpa using c48))
               clear c48
               by_cases c49 : t496 = 0
               ·
                rw [if_pos c49] at H
                have c49b0 : (t496 == 0) = true := beq_iff_eq.mpr c49
                have c49b1 : (t496 != 0) = false := bne_eq_false_iff_eq.mpr c49
                clear c49
                by_cases c50 : (t507 == a0_0 && (t508 == a0_1 && (t509 == a0_2 && (t510 == a0_3 && ((t511 == a0_4 && (t512 == a0_5 && (t513 == a0_6 && (t514 == a0_7 && (t515 == a0_8 && (t516 == a0_9 && (t517 == a0_10 && (t518 == a0_11))))))))))))) = true
                ·
                 rw [if_pos c50] at H
                 have c50b0 : (t507 == a0_0 && (t508 == a0_1 && (t509 == a0_2 && (t510 == a0_3 && ((t511 == a0_4 && (t512 == a0_5 && (t513 == a0_6 && (t514 == a0_7 && (t515 == a0_8 && (t516 == a0_9 && (t517 == a0_10 && (t518 == a0_11))))))))))))) = true := c50
                 (try (have c50b1 : decide (t507 = a0_0 && (t508 == a0_1 && (t509 == a0_2 && (t510 == a0_3 && ((t511 == a0_4 && (t512 == a0_5 && (t513 == a0_6 && (t514 == a0_7 && (t515 == a0_8 && (t516 == a0_9 && (t517 == a0_10 && (t518 == a0_11))))))))))))) = true := by simpa using c50))
                 (try (have c50b2 : (t507 == a0_0 && (t508 == a0_1 && (t509 == a0_2 && (t510 == a0_3 && ((t511 == a0_4 && (t512 == a0_5 && (t513 == a0_6 && (t514 == a0_7 && (t515 == a0_8 && (t516 == a0_9 && (t517 == a0_10 && (t518 == a0_11))))))))))))) = true := by simpa using c50))
                 clear c50
                 by_cases c51 : t519 = 0
                 ·
                  rw [if_pos c51] at H
                  have c51b0 : (t519 == 0) = true := beq_iff_eq.mpr c51
                  have c51b1 : (t519 != 0) = false := bne_eq_false_iff_eq.mpr c51
                  clear c51
                  replace H := Option.bind_eq_some_iff.mp H
                  obtain ⟨t521, A520, H⟩ := H
                  replace H : (some t521) = some r := H
                  have A52 := Aside0.mk A520
                  clear A520
                  obtain rfl := Option.some.inj H
                  go_wp2_with (first | ((with_reducible refine gate_callee (f := 24) rfl ?_); refine goesL_ (some 80) rfl rfl Try.func24 (by kernel_rfl) rfl #[.slice Ao30 x7_3.length co30] rfl (by (try simp only [List.map_toArray, List.map_cons, List.map_nil]); first | done | rfl | (simp only [List.length_drop, List.length_take]; rfl)) ?_; (with_reducible refine (field_Ahead.calls _ _ x7_3 t482 t483 _ ?side1 ?side2 A41.out).mono ?_); (case side1 => repeat (first | exact (Kd.R_reads' HO_7.out).2.2 | (with_reducible refine Kd.C_alloc ?_ _) | (with_reducible refine Kd.C_drewN ?_ _) | (with_reducible refine Kd.C_drew ?_))); (case side2 => exact (Kd.R_reads' HO_7.out).2.1); rintro e w53 ⟨rfl, hb⟩; refine ⟨_, rfl, ?_⟩; have n0_ := Aside0.mk (Kd.R_below (by (with_reducible repeat (first | apply Kd.R_alloc | apply Kd.R_drewN | apply Kd.R_drew)); exact HO_7.out) hb); have n1_ := Aside0.mk (blk_below (g := gb473) (o := .cells #[.int .i64 a0_0, .bool a0_1, .bool a0_2, .int .i64 a0_3, .int .u8 a0_4, .int .u8 a0_5, .int .u8 a0_6, .int .u8 a0_7, .int .u8 a0_8, .int .u8 a0_9, .int .u8 a0_10, .int .u8 a0_11] 24 (0, 0)) (by (with_reducible repeat (first | refine blk_drewN ?_ _ | refine blk_drew ?_ | refine blk_alloc ?_ _)); exact BK473.out) hb); have n2_ := Aside0.mk (below_step (by repeat (first | (with_reducible first | exact HB.out | apply below_alloc | apply pw_below_drewN | apply below_drew1 | refine below_set ?_ GE473.out) | exact HB.out)) hb); clear HO_7; clear BK473; clear HB; have HO_7 := n0_; have BK473 := n1_; have HB := n2_; clear n0_ n1_ n2_; (try clear hb); (try clear hb2); (try clear hk); (try clear hi)) | ((with_reducible refine gate_callee (f := 29) rfl ?_); refine goesL_ (some 85) rfl rfl Try.func29 (by kernel_rfl) rfl #[.slice Ao30 x7_3.length co30] rfl (by (try simp only [List.map_toArray, List.map_cons, List.map_nil]); first | done | rfl | (simp only [List.length_drop, List.length_take]; rfl)) ?_; (with_reducible refine (field_Frame.calls k3 _ _ x7_3 t484 t485 t486 t487 t488 t489 t490 t491 t492 t493 t494 t495 t496 _ ?side1 ?side2 A42.out).mono ?_); (case side1 => repeat (first | exact (Kd.R_reads' HO_7.out).2.2 | (with_reducible refine Kd.C_alloc ?_ _) | (with_reducible refine Kd.C_drewN ?_ _) | (with_reducible refine Kd.C_drew ?_))); (case side2 => exact (Kd.R_reads' HO_7.out).2.1); rintro e w54 ⟨rfl, hb⟩; refine ⟨_, rfl, ?_⟩; have n0_ := Aside0.mk (Kd.R_below (by (with_reducible repeat (first | apply Kd.R_alloc | apply Kd.R_drewN | apply Kd.R_drew)); exact HO_7.out) hb); have n1_ := Aside0.mk (blk_below (g := gb473) (o := .cells #[.int .i64 a0_0, .bool a0_1, .bool a0_2, .int .i64 a0_3, .int .u8 a0_4, .int .u8 a0_5, .int .u8 a0_6, .int .u8 a0_7, .int .u8 a0_8, .int .u8 a0_9, .int .u8 a0_10, .int .u8 a0_11] 24 (0, 0)) (by (with_reducible repeat (first | refine blk_drewN ?_ _ | refine blk_drew ?_ | refine blk_alloc ?_ _)); exact BK473.out) hb); have n2_ := Aside0.mk (below_step (by repeat (first | (with_reducible first | exact HB.out | apply below_alloc | apply pw_below_drewN | apply below_drew1 | refine below_set ?_ GE473.out) | exact HB.out)) hb); clear HO_7; clear BK473; clear HB; have HO_7 := n0_; have BK473 := n1_; have HB := n2_; clear n0_ n1_ n2_; (try clear hb); (try clear hb2); (try clear hk); (try clear hi)) | ((with_reducible refine gate_dst (N := 13) rfl ?_); (try (refine gate_guard (by rfl) ?_; dsimp only)); refine box_event ?hg (N := 13) ?hd (cs := #[.int .i64 0, .bool false, .bool false, .int .i64 0, .int .u8 0, .int .u8 0, .int .u8 0, .int .u8 0, .int .u8 0, .int .u8 0, .int .u8 0, .int .u8 0]) (t := 24) ?hr ?_; (case hd => rfl); (case hg => rfl); (case hr => first | (go_simp; done) | (go_simp; rfl)); intro gb497 hg w55 hbox hb; have n0_ := Aside0.mk (Kd.R_below (by (with_reducible repeat (first | apply Kd.R_alloc | apply Kd.R_drewN | apply Kd.R_drew)); exact HO_7.out) hb); have n1_ := Aside0.mk (blk_below (g := gb473) (o := .cells #[.int .i64 a0_0, .bool a0_1, .bool a0_2, .int .i64 a0_3, .int .u8 a0_4, .int .u8 a0_5, .int .u8 a0_6, .int .u8 a0_7, .int .u8 a0_8, .int .u8 a0_9, .int .u8 a0_10, .int .u8 a0_11] 24 (0, 0)) (by (with_reducible repeat (first | refine blk_drewN ?_ _ | refine blk_drew ?_ | refine blk_alloc ?_ _)); exact BK473.out) hb); have n2_ := Aside0.mk (below_step (by repeat (first | (with_reducible first | exact HB.out | apply below_alloc | apply pw_below_drewN | apply below_drew1 | refine below_set ?_ GE473.out) | exact HB.out)) hb); have n3_ := Aside0.mk (hbox); have n4_ := Aside0.mk ((by rw [hg]; exact (below_size (by repeat (first | (with_reducible first | exact HB.out | apply below_alloc | apply pw_below_drewN | apply below_drew1 | refine below_set ?_ GE473.out) | exact HB.out))) : w.heap.size ≤ gb497)); have n5_ := Aside0.mk ((by rw [hg]; exact (below_size (by repeat (first | (with_reducible first | exact HB.out | apply below_alloc | apply pw_below_drewN | apply below_drew1 | refine below_set ?_ GE473.out) | exact HB.out))) : w.heap.size ≤ gb497)); have n6_ := Aside0.mk ((by rw [hg]; exact Nat.ne_of_lt (blk_lt (g := gb473) (o := .cells #[.int .i64 a0_0, .bool a0_1, .bool a0_2, .int .i64 a0_3, .int .u8 a0_4, .int .u8 a0_5, .int .u8 a0_6, .int .u8 a0_7, .int .u8 a0_8, .int .u8 a0_9, .int .u8 a0_10, .int .u8 a0_11] 24 (0, 0)) (by (with_reducible repeat (first | refine blk_drewN ?_ _ | refine blk_drew ?_ | refine blk_alloc ?_ _)); exact BK473.out)) : gb473 ≠ gb497)); have n7_ := Aside0.mk ((by rw [hg]; exact Nat.ne_of_gt (blk_lt (g := gb473) (o := .cells #[.int .i64 a0_0, .bool a0_1, .bool a0_2, .int .i64 a0_3, .int .u8 a0_4, .int .u8 a0_5, .int .u8 a0_6, .int .u8 a0_7, .int .u8 a0_8, .int .u8 a0_9, .int .u8 a0_10, .int .u8 a0_11] 24 (0, 0)) (by (with_reducible repeat (first | refine blk_drewN ?_ _ | refine blk_drew ?_ | refine blk_alloc ?_ _)); exact BK473.out)) : gb497 ≠ gb473)); clear HO_7; clear BK473; clear HB; have HO_7 := n0_; have BK473 := n1_; have HB := n2_; have BK497 := n3_; have GW497 := n4_; have GE497 := n5_; have NB473_497 := n6_; have NB497_473 := n7_; clear n0_ n1_ n2_ n3_ n4_ n5_ n6_ n7_; clear hb hbox hg; have hnb56 := NB497_473.out; have hnc56 := NB473_497.out; have hcz57_0 : w55.cell? ⟨gb497, 0, none⟩ = some (.int .i64 0) := (blk_cell BK497.out 0).trans rfl; have hcz57_1 : w55.cell? ⟨gb497, 1, none⟩ = some (.bool false) := (blk_cell BK497.out 1).trans rfl; have hcz57_2 : w55.cell? ⟨gb497, 2, none⟩ = some (.bool false) := (blk_cell BK497.out 2).trans rfl; have hcz57_3 : w55.cell? ⟨gb497, 3, none⟩ = some (.int .i64 0) := (blk_cell BK497.out 3).trans rfl; have hcz57_4 : w55.cell? ⟨gb497, 4, none⟩ = some (.int .u8 0) := (blk_cell BK497.out 4).trans rfl; have hcz57_5 : w55.cell? ⟨gb497, 5, none⟩ = some (.int .u8 0) := (blk_cell BK497.out 5).trans rfl; have hcz57_6 : w55.cell? ⟨gb497, 6, none⟩ = some (.int .u8 0) := (blk_cell BK497.out 6).trans rfl; have hcz57_7 : w55.cell? ⟨gb497, 7, none⟩ = some (.int .u8 0) := (blk_cell BK497.out 7).trans rfl; have hcz57_8 : w55.cell? ⟨gb497, 8, none⟩ = some (.int .u8 0) := (blk_cell BK497.out 8).trans rfl; have hcz57_9 : w55.cell? ⟨gb497, 9, none⟩ = some (.int .u8 0) := (blk_cell BK497.out 9).trans rfl; have hcz57_10 : w55.cell? ⟨gb497, 10, none⟩ = some (.int .u8 0) := (blk_cell BK497.out 10).trans rfl; have hcz57_11 : w55.cell? ⟨gb497, 11, none⟩ = some (.int .u8 0) := (blk_cell BK497.out 11).trans rfl; have hfz57_0 := blk_frozen BK497.out 0; have hfz57_1 := blk_frozen BK497.out 1; have hfz57_2 := blk_frozen BK497.out 2; have hfz57_3 := blk_frozen BK497.out 3; have hfz57_4 := blk_frozen BK497.out 4; have hfz57_5 := blk_frozen BK497.out 5; have hfz57_6 := blk_frozen BK497.out 6; have hfz57_7 := blk_frozen BK497.out 7; have hfz57_8 := blk_frozen BK497.out 8; have hfz57_9 := blk_frozen BK497.out 9; have hfz57_10 := blk_frozen BK497.out 10; have hfz57_11 := blk_frozen BK497.out 11) | ((with_reducible refine gate_dst (N := 89) rfl ?_); (try (refine gate_guard (by rfl) ?_; dsimp only)); refine Kd.R_lit (Kd.int .i64) _ 3 ?hg (N := 89) ?hd (xs := ([] : List Int)) (inner := []) (ok := fun _ => True) (okp := fun _ => True) ?hr ?hp (fun _ hk => hk) trivial (Below.refl _ _) (Nat.le_refl _) (by simp) ?_; (case hd => rfl); (case hg => rfl); (case hr => first | (go_simp; done) | (go_simp; rfl)); (case hp => exact (Reps.none _ _)); intro v499 w58 ho59 hb hg_ hnew_; clear hg_ hnew_; (first | rw [← Ny498.out] at ho59 | (simp only [Int.reduceToNat] at ho59; rw [← Ny498.out] at ho59)); have n0_ := Aside0.mk (Kd.R_elder' (by (with_reducible repeat (first | apply Kd.R_alloc | apply Kd.R_drewN | apply Kd.R_drew)); exact (Kd.R_mono (Kd.R_far (p := ⟨gb497, 11, none⟩) (Kd.R_far (p := ⟨gb497, 10, none⟩) (Kd.R_far (p := ⟨gb497, 9, none⟩) (Kd.R_far (p := ⟨gb497, 8, none⟩) (Kd.R_far (p := ⟨gb497, 7, none⟩) (Kd.R_far (p := ⟨gb497, 6, none⟩) (Kd.R_far (p := ⟨gb497, 5, none⟩) (Kd.R_far (p := ⟨gb497, 4, none⟩) (Kd.R_far (p := ⟨gb497, 3, none⟩) (Kd.R_far (p := ⟨gb497, 2, none⟩) (Kd.R_far (p := ⟨gb497, 1, none⟩) (Kd.R_far (p := ⟨gb497, 0, none⟩) (Kd.R_types HO_7.out BK497.out (by decide)) (fun _ hk => hk.2) (.int .i64 t484)) (fun _ hk => hk.2) (.bool t485)) (fun _ hk => hk.2) (.bool t486)) (fun _ hk => hk.2) (.int .i64 t487)) (fun _ hk => hk.2) (.int .u8 t488)) (fun _ hk => hk.2) (.int .u8 t489)) (fun _ hk => hk.2) (.int .u8 t490)) (fun _ hk => hk.2) (.int .u8 t491)) (fun _ hk => hk.2) (.int .u8 t492)) (fun _ hk => hk.2) (.int .u8 t493)) (fun _ hk => hk.2) (.int .u8 t494)) (fun _ hk => hk.2) (.int .u8 t495)) (fun _ h_ => h_.1))) (Kd.R_base ho59) hb); have n1_ := Aside0.mk (Kd.R_lower (Kd.R_new' ho59 (Kd.R_lt (by (with_reducible repeat (first | apply Kd.R_alloc | apply Kd.R_drewN | apply Kd.R_drew)); exact (Kd.R_mono (Kd.R_far (p := ⟨gb497, 11, none⟩) (Kd.R_far (p := ⟨gb497, 10, none⟩) (Kd.R_far (p := ⟨gb497, 9, none⟩) (Kd.R_far (p := ⟨gb497, 8, none⟩) (Kd.R_far (p := ⟨gb497, 7, none⟩) (Kd.R_far (p := ⟨gb497, 6, none⟩) (Kd.R_far (p := ⟨gb497, 5, none⟩) (Kd.R_far (p := ⟨gb497, 4, none⟩) (Kd.R_far (p := ⟨gb497, 3, none⟩) (Kd.R_far (p := ⟨gb497, 2, none⟩) (Kd.R_far (p := ⟨gb497, 1, none⟩) (Kd.R_far (p := ⟨gb497, 0, none⟩) (Kd.R_types HO_7.out BK497.out (by decide)) (fun _ hk => hk.2) (.int .i64 t484)) (fun _ hk => hk.2) (.bool t485)) (fun _ hk => hk.2) (.bool t486)) (fun _ hk => hk.2) (.int .i64 t487)) (fun _ hk => hk.2) (.int .u8 t488)) (fun _ hk => hk.2) (.int .u8 t489)) (fun _ hk => hk.2) (.int .u8 t490)) (fun _ hk => hk.2) (.int .u8 t491)) (fun _ hk => hk.2) (.int .u8 t492)) (fun _ hk => hk.2) (.int .u8 t493)) (fun _ hk => hk.2) (.int .u8 t494)) (fun _ hk => hk.2) (.int .u8 t495)) (fun _ h_ => h_.1))))) (below_size (by repeat (first | (with_reducible first | exact HB.out | apply below_alloc | apply pw_below_drewN | apply below_drew1 | refine below_set ?_ GE473.out | refine below_set ?_ GE497.out) | exact HB.out)))); have n2_ := Aside0.mk (blk_below (g := gb473) (o := .cells #[.int .i64 a0_0, .bool a0_1, .bool a0_2, .int .i64 a0_3, .int .u8 a0_4, .int .u8 a0_5, .int .u8 a0_6, .int .u8 a0_7, .int .u8 a0_8, .int .u8 a0_9, .int .u8 a0_10, .int .u8 a0_11] 24 (0, 0)) (by (with_reducible repeat (first | refine blk_drewN ?_ _ | refine blk_drew ?_ | refine blk_alloc ?_ _)); refine blk_far ?_ NB473_497.out _; (with_reducible repeat (first | refine blk_drewN ?_ _ | refine blk_drew ?_ | refine blk_alloc ?_ _)); refine blk_far ?_ NB473_497.out _; (with_reducible repeat (first | refine blk_drewN ?_ _ | refine blk_drew ?_ | refine blk_alloc ?_ _)); refine blk_far ?_ NB473_497.out _; (with_reducible repeat (first | refine blk_drewN ?_ _ | refine blk_drew ?_ | refine blk_alloc ?_ _)); refine blk_far ?_ NB473_497.out _; (with_reducible repeat (first | refine blk_drewN ?_ _ | refine blk_drew ?_ | refine blk_alloc ?_ _)); refine blk_far ?_ NB473_497.out _; (with_reducible repeat (first | refine blk_drewN ?_ _ | refine blk_drew ?_ | refine blk_alloc ?_ _)); refine blk_far ?_ NB473_497.out _; (with_reducible repeat (first | refine blk_drewN ?_ _ | refine blk_drew ?_ | refine blk_alloc ?_ _)); refine blk_far ?_ NB473_497.out _; (with_reducible repeat (first | refine blk_drewN ?_ _ | refine blk_drew ?_ | refine blk_alloc ?_ _)); refine blk_far ?_ NB473_497.out _; (with_reducible repeat (first | refine blk_drewN ?_ _ | refine blk_drew ?_ | refine blk_alloc ?_ _)); refine blk_far ?_ NB473_497.out _; (with_reducible repeat (first | refine blk_drewN ?_ _ | refine blk_drew ?_ | refine blk_alloc ?_ _)); refine blk_far ?_ NB473_497.out _; (with_reducible repeat (first | refine blk_drewN ?_ _ | refine blk_drew ?_ | refine blk_alloc ?_ _)); refine blk_far ?_ NB473_497.out _; (with_reducible repeat (first | refine blk_drewN ?_ _ | refine blk_drew ?_ | refine blk_alloc ?_ _)); refine blk_far ?_ NB473_497.out _; (with_reducible repeat (first | refine blk_drewN ?_ _ | refine blk_drew ?_ | refine blk_alloc ?_ _)); exact BK473.out) hb); have n3_ := Aside0.mk (blk_below (g := gb497) (o := .cells #[.int .i64 t484, .bool t485, .bool t486, .int .i64 t487, .int .u8 t488, .int .u8 t489, .int .u8 t490, .int .u8 t491, .int .u8 t492, .int .u8 t493, .int .u8 t494, .int .u8 t495] 24 (0, 0)) (by (with_reducible repeat (first | refine blk_drewN ?_ _ | refine blk_drew ?_ | refine blk_alloc ?_ _)); refine blk_put (cs := #[.int .i64 t484, .bool t485, .bool t486, .int .i64 t487, .int .u8 t488, .int .u8 t489, .int .u8 t490, .int .u8 t491, .int .u8 t492, .int .u8 t493, .int .u8 t494, .int .u8 0]) ?_ 11 _ rfl; (with_reducible repeat (first | refine blk_drewN ?_ _ | refine blk_drew ?_ | refine blk_alloc ?_ _)); refine blk_put (cs := #[.int .i64 t484, .bool t485, .bool t486, .int .i64 t487, .int .u8 t488, .int .u8 t489, .int .u8 t490, .int .u8 t491, .int .u8 t492, .int .u8 t493, .int .u8 0, .int .u8 0]) ?_ 10 _ rfl; (with_reducible repeat (first | refine blk_drewN ?_ _ | refine blk_drew ?_ | refine blk_alloc ?_ _)); refine blk_put (cs := #[.int .i64 t484, .bool t485, .bool t486, .int .i64 t487, .int .u8 t488, .int .u8 t489, .int .u8 t490, .int .u8 t491, .int .u8 t492, .int .u8 0, .int .u8 0, .int .u8 0]) ?_ 9 _ rfl; (with_reducible repeat (first | refine blk_drewN ?_ _ | refine blk_drew ?_ | refine blk_alloc ?_ _)); refine blk_put (cs := #[.int .i64 t484, .bool t485, .bool t486, .int .i64 t487, .int .u8 t488, .int .u8 t489, .int .u8 t490, .int .u8 t491, .int .u8 0, .int .u8 0, .int .u8 0, .int .u8 0]) ?_ 8 _ rfl; (with_reducible repeat (first | refine blk_drewN ?_ _ | refine blk_drew ?_ | refine blk_alloc ?_ _)); refine blk_put (cs := #[.int .i64 t484, .bool t485, .bool t486, .int .i64 t487, .int .u8 t488, .int .u8 t489, .int .u8 t490, .int .u8 0, .int .u8 0, .int .u8 0, .int .u8 0, .int .u8 0]) ?_ 7 _ rfl; (with_reducible repeat (first | refine blk_drewN ?_ _ | refine blk_drew ?_ | refine blk_alloc ?_ _)); refine blk_put (cs := #[.int .i64 t484, .bool t485, .bool t486, .int .i64 t487, .int .u8 t488, .int .u8 t489, .int .u8 0, .int .u8 0, .int .u8 0, .int .u8 0, .int .u8 0, .int .u8 0]) ?_ 6 _ rfl; (with_reducible repeat (first | refine blk_drewN ?_ _ | refine blk_drew ?_ | refine blk_alloc ?_ _)); refine blk_put (cs := #[.int .i64 t484, .bool t485, .bool t486, .int .i64 t487, .int .u8 t488, .int .u8 0, .int .u8 0, .int .u8 0, .int .u8 0, .int .u8 0, .int .u8 0, .int .u8 0]) ?_ 5 _ rfl; (with_reducible repeat (first | refine blk_drewN ?_ _ | refine blk_drew ?_ | refine blk_alloc ?_ _)); refine blk_put (cs := #[.int .i64 t484, .bool t485, .bool t486, .int .i64 t487, .int .u8 0, .int .u8 0, .int .u8 0, .int .u8 0, .int .u8 0, .int .u8 0, .int .u8 0, .int .u8 0]) ?_ 4 _ rfl; (with_reducible repeat (first | refine blk_drewN ?_ _ | refine blk_drew ?_ | refine blk_alloc ?_ _)); refine blk_put (cs := #[.int .i64 t484, .bool t485, .bool t486, .int .i64 0, .int .u8 0, .int .u8 0, .int .u8 0, .int .u8 0, .int .u8 0, .int .u8 0, .int .u8 0, .int .u8 0]) ?_ 3 _ rfl; (with_reducible repeat (first | refine blk_drewN ?_ _ | refine blk_drew ?_ | refine blk_alloc ?_ _)); refine blk_put (cs := #[.int .i64 t484, .bool t485, .bool false, .int .i64 0, .int .u8 0, .int .u8 0, .int .u8 0, .int .u8 0, .int .u8 0, .int .u8 0, .int .u8 0, .int .u8 0]) ?_ 2 _ rfl; (with_reducible repeat (first | refine blk_drewN ?_ _ | refine blk_drew ?_ | refine blk_alloc ?_ _)); refine blk_put (cs := #[.int .i64 t484, .bool false, .bool false, .int .i64 0, .int .u8 0, .int .u8 0, .int .u8 0, .int .u8 0, .int .u8 0, .int .u8 0, .int .u8 0, .int .u8 0]) ?_ 1 _ rfl; (with_reducible repeat (first | refine blk_drewN ?_ _ | refine blk_drew ?_ | refine blk_alloc ?_ _)); refine blk_put (cs := #[.int .i64 0, .bool false, .bool false, .int .i64 0, .int .u8 0, .int .u8 0, .int .u8 0, .int .u8 0, .int .u8 0, .int .u8 0, .int .u8 0, .int .u8 0]) ?_ 0 _ rfl; (with_reducible repeat (first | refine blk_drewN ?_ _ | refine blk_drew ?_ | refine blk_alloc ?_ _)); exact BK497.out) hb); have n4_ := Aside0.mk (below_step (by repeat (first | (with_reducible first | exact HB.out | apply below_alloc | apply pw_below_drewN | apply below_drew1 | refine below_set ?_ GE473.out | refine below_set ?_ GE497.out) | exact HB.out)) hb); clear HO_7; clear BK473; clear BK497; clear HB; have HO_7 := n0_; have HO500 := n1_; have BK473 := n2_; have BK497 := n3_; have HB := n4_; clear n0_ n1_ n2_ n3_ n4_; clear hb ho59) | ((with_reducible refine gate_builtin (b := .append) (xs := #[.tmp 89, .tmp 90]) rfl ?_); (try (refine gate_guard (by rfl) ?_; dsimp only)); at_builtin; refine Kd.R_append_rows (Kd.int .i64) (w0 := w) w.heap.size rfl (.tmp 89) (.tmp 90) 25 3 (.int .i64 0) 8 rfl Try.underlying25 info3 rfl (by decide) (by omega) v499 y498 x7_3 _ _ _ (fun k_ => some k_ ≠ (.slice Ao30 x7_3.length co30 : Value).ownBlock) (fun _ => False) rfl rfl ?aO ?aR (fun _ _ h => h) (fun _ h => h.elim) ?aF ?aB ?aS ?aL ?_; (case aR => repeat (first | exact (Kd.R_reads' HO_7.out).2.2 | (with_reducible refine Kd.C_alloc ?_ _) | (with_reducible refine Kd.C_drewN ?_ _) | (with_reducible refine Kd.C_drew ?_))); (case aB => exact (by repeat (first | (with_reducible first | exact HB.out | apply below_alloc | apply pw_below_drewN | apply below_drew1 | refine below_set ?_ GE473.out | refine below_set ?_ GE497.out) | exact HB.out))); (case aF => exact (fun k_ hk => Kd.fresh' (Kd.R_lt (by (with_reducible repeat (first | apply Kd.R_alloc | apply Kd.R_drewN | apply Kd.R_drew)); exact HO_7.out)) k_ hk)); (case aO => exact (by (with_reducible repeat (first | apply Kd.R_alloc | apply Kd.R_drewN | apply Kd.R_drew)); exact Kd.R_mono HO500.out (fun _ hk => hk.2))); (case aS => exact (below_size (by repeat (first | (with_reducible first | exact HB.out | apply below_alloc | apply pw_below_drewN | apply below_drew1 | refine below_set ?_ GE473.out | refine below_set ?_ GE497.out) | exact HB.out)))); (case aL => have := LMc43.out; omega); intro v502 w60 ho hb hg hat; rw [← Ny501.out] at ho; have n0_ := Aside0.mk (Kd.R_after (ok := (fun _ => True)) (by (with_reducible repeat (first | apply Kd.R_alloc | apply Kd.R_drewN | apply Kd.R_drew)); exact HO_7.out) hg hat); have n1_ := Aside0.mk (blk_grown (g := gb473) (o := .cells #[.int .i64 a0_0, .bool a0_1, .bool a0_2, .int .i64 a0_3, .int .u8 a0_4, .int .u8 a0_5, .int .u8 a0_6, .int .u8 a0_7, .int .u8 a0_8, .int .u8 a0_9, .int .u8 a0_10, .int .u8 a0_11] 24 (0, 0)) (by (with_reducible repeat (first | refine blk_drewN ?_ _ | refine blk_drew ?_ | refine blk_alloc ?_ _)); exact BK473.out) hg (Kd.R_ne HO500.out BK473.out (by decide))); have n2_ := Aside0.mk (blk_grown (g := gb497) (o := .cells #[.int .i64 t484, .bool t485, .bool t486, .int .i64 t487, .int .u8 t488, .int .u8 t489, .int .u8 t490, .int .u8 t491, .int .u8 t492, .int .u8 t493, .int .u8 t494, .int .u8 t495] 24 (0, 0)) (by (with_reducible repeat (first | refine blk_drewN ?_ _ | refine blk_drew ?_ | refine blk_alloc ?_ _)); exact BK497.out) hg (Kd.R_ne HO500.out BK497.out (by decide))); have n3_ := Aside0.mk (hb); have n4_ := Aside0.mk (ho); clear HO_7; clear BK473; clear BK497; clear HB; clear HO500; have HO_7 := n0_; have BK473 := n1_; have BK497 := n2_; have HB := n3_; have HO503 := n4_; clear n0_ n1_ n2_ n3_ n4_; clear ho hb hg hat) | ((with_reducible refine gate_builtin (b := .append) (xs := #[.tmp 91, .tmp 92]) rfl ?_); (try (refine gate_guard (by rfl) ?_; dsimp only)); at_builtin; refine Kd.R_append_rows (Kd.int .i64) (w0 := w) w.heap.size rfl (.tmp 91) (.tmp 92) 25 3 (.int .i64 0) 8 rfl Try.underlying25 info3 rfl (by decide) (by omega) v502 y501 l2 _ _ _ (fun k_ => some k_ ≠ (.slice Ao30 x7_3.length co30 : Value).ownBlock) (fun _ => False) rfl rfl ?aO ?aR (fun _ _ h => h) (fun _ h => h.elim) ?aF ?aB ?aS ?aL ?_; (case aR => repeat (first | exact (Kd.C_below HR2.out HB.out) | (with_reducible refine Kd.C_alloc ?_ _) | (with_reducible refine Kd.C_drewN ?_ _) | (with_reducible refine Kd.C_drew ?_))); (case aB => exact (by repeat (first | (with_reducible first | exact HB.out | apply below_alloc | apply pw_below_drewN | apply below_drew1 | refine below_set ?_ GE473.out | refine below_set ?_ GE497.out) | exact HB.out))); (case aF => exact (fun k_ hk => Kd.fresh' (Kd.R_lt (by (with_reducible repeat (first | apply Kd.R_alloc | apply Kd.R_drewN | apply Kd.R_drew)); exact HO_7.out)) k_ hk)); (case aO => exact (by (with_reducible repeat (first | apply Kd.R_alloc | apply Kd.R_drewN | apply Kd.R_drew)); exact HO503.out)); (case aS => exact (below_size (by repeat (first | (with_reducible first | exact HB.out | apply below_alloc | apply pw_below_drewN | apply below_drew1 | refine below_set ?_ GE473.out | refine below_set ?_ GE497.out) | exact HB.out)))); (case aL => have := LMc44.out; omega); intro v505 w61 ho hb hg hat; rw [← Ny504.out] at ho; have n0_ := Aside0.mk (Kd.R_after (ok := (fun _ => True)) (by (with_reducible repeat (first | apply Kd.R_alloc | apply Kd.R_drewN | apply Kd.R_drew)); exact HO_7.out) hg hat); have n1_ := Aside0.mk (blk_grown (g := gb473) (o := .cells #[.int .i64 a0_0, .bool a0_1, .bool a0_2, .int .i64 a0_3, .int .u8 a0_4, .int .u8 a0_5, .int .u8 a0_6, .int .u8 a0_7, .int .u8 a0_8, .int .u8 a0_9, .int .u8 a0_10, .int .u8 a0_11] 24 (0, 0)) (by (with_reducible repeat (first | refine blk_drewN ?_ _ | refine blk_drew ?_ | refine blk_alloc ?_ _)); exact BK473.out) hg (Kd.R_ne HO503.out BK473.out (by decide))); have n2_ := Aside0.mk (blk_grown (g := gb497) (o := .cells #[.int .i64 t484, .bool t485, .bool t486, .int .i64 t487, .int .u8 t488, .int .u8 t489, .int .u8 t490, .int .u8 t491, .int .u8 t492, .int .u8 t493, .int .u8 t494, .int .u8 t495] 24 (0, 0)) (by (with_reducible repeat (first | refine blk_drewN ?_ _ | refine blk_drew ?_ | refine blk_alloc ?_ _)); exact BK497.out) hg (Kd.R_ne HO503.out BK497.out (by decide))); have n3_ := Aside0.mk (hb); have n4_ := Aside0.mk (ho); clear HO_7; clear BK473; clear BK497; clear HB; clear HO503; have HO_7 := n0_; have BK473 := n1_; have BK497 := n2_; have HB := n3_; have HO506 := n4_; clear n0_ n1_ n2_ n3_ n4_; clear ho hb hg hat; obtain ⟨Ao62, co62, eo62⟩ := Kd.R_slice HO506.out; subst eo62) | ((with_reducible refine gate_callee (f := 29) rfl ?_); refine goesL_ (some 94) rfl rfl Try.func29 (by kernel_rfl) rfl #[.slice Ao62 y504.length co62] rfl (by (try simp only [List.map_toArray, List.map_cons, List.map_nil]); first | done | rfl | (simp only [List.length_drop, List.length_take]; rfl)) ?_; (with_reducible refine (field_Frame.calls k3 _ _ y504 t507 t508 t509 t510 t511 t512 t513 t514 t515 t516 t517 t518 t519 _ ?side1 ?side2 A45.out).mono ?_); (case side1 => repeat (first | exact (Kd.R_reads' HO506.out).2.2 | (with_reducible refine Kd.C_alloc ?_ _) | (with_reducible refine Kd.C_drewN ?_ _) | (with_reducible refine Kd.C_drew ?_))); (case side2 => exact (Kd.R_reads' HO506.out).2.1); rintro e w63 ⟨rfl, hb⟩; refine ⟨_, rfl, ?_⟩; have n0_ := Aside0.mk (Kd.R_below (by (with_reducible repeat (first | apply Kd.R_alloc | apply Kd.R_drewN | apply Kd.R_drew)); exact HO_7.out) hb); have n1_ := Aside0.mk (Kd.R_below (by (with_reducible repeat (first | apply Kd.R_alloc | apply Kd.R_drewN | apply Kd.R_drew)); exact HO506.out) hb); have n2_ := Aside0.mk (blk_below (g := gb473) (o := .cells #[.int .i64 a0_0, .bool a0_1, .bool a0_2, .int .i64 a0_3, .int .u8 a0_4, .int .u8 a0_5, .int .u8 a0_6, .int .u8 a0_7, .int .u8 a0_8, .int .u8 a0_9, .int .u8 a0_10, .int .u8 a0_11] 24 (0, 0)) (by (with_reducible repeat (first | refine blk_drewN ?_ _ | refine blk_drew ?_ | refine blk_alloc ?_ _)); exact BK473.out) hb); have n3_ := Aside0.mk (blk_below (g := gb497) (o := .cells #[.int .i64 t484, .bool t485, .bool t486, .int .i64 t487, .int .u8 t488, .int .u8 t489, .int .u8 t490, .int .u8 t491, .int .u8 t492, .int .u8 t493, .int .u8 t494, .int .u8 t495] 24 (0, 0)) (by (with_reducible repeat (first | refine blk_drewN ?_ _ | refine blk_drew ?_ | refine blk_alloc ?_ _)); exact BK497.out) hb); have n4_ := Aside0.mk (below_step (by repeat (first | (with_reducible first | exact HB.out | apply below_alloc | apply pw_below_drewN | apply below_drew1 | refine below_set ?_ GE473.out | refine below_set ?_ GE497.out) | exact HB.out)) hb); clear HO_7; clear HO506; clear BK473; clear BK497; clear HB; have HO_7 := n0_; have HO506 := n1_; have BK473 := n2_; have BK497 := n3_; have HB := n4_; clear n0_ n1_ n2_ n3_ n4_; (try clear hb); (try clear hb2); (try clear hk); (try clear hi)) | ((with_reducible refine gate_dst (N := 15) rfl ?_); (try (refine gate_guard (by rfl) ?_; dsimp only)); refine box_event ?hg (N := 15) ?hd (cs := #[.int .i64 0, .bool false, .bool false, .int .i64 0, .int .u8 0, .int .u8 0, .int .u8 0, .int .u8 0, .int .u8 0, .int .u8 0, .int .u8 0, .int .u8 0]) (t := 24) ?hr ?_; (case hd => rfl); (case hg => rfl); (case hr => first | (go_simp; done) | (go_simp; rfl)); intro gb520 hg w64 hbox hb; have n0_ := Aside0.mk (Kd.R_below (by (with_reducible repeat (first | apply Kd.R_alloc | apply Kd.R_drewN | apply Kd.R_drew)); exact HO_7.out) hb); have n1_ := Aside0.mk (Kd.R_below (by (with_reducible repeat (first | apply Kd.R_alloc | apply Kd.R_drewN | apply Kd.R_drew)); exact HO506.out) hb); have n2_ := Aside0.mk (blk_below (g := gb473) (o := .cells #[.int .i64 a0_0, .bool a0_1, .bool a0_2, .int .i64 a0_3, .int .u8 a0_4, .int .u8 a0_5, .int .u8 a0_6, .int .u8 a0_7, .int .u8 a0_8, .int .u8 a0_9, .int .u8 a0_10, .int .u8 a0_11] 24 (0, 0)) (by (with_reducible repeat (first | refine blk_drewN ?_ _ | refine blk_drew ?_ | refine blk_alloc ?_ _)); exact BK473.out) hb); have n3_ := Aside0.mk (blk_below (g := gb497) (o := .cells #[.int .i64 t484, .bool t485, .bool t486, .int .i64 t487, .int .u8 t488, .int .u8 t489, .int .u8 t490, .int .u8 t491, .int .u8 t492, .int .u8 t493, .int .u8 t494, .int .u8 t495] 24 (0, 0)) (by (with_reducible repeat (first | refine blk_drewN ?_ _ | refine blk_drew ?_ | refine blk_alloc ?_ _)); exact BK497.out) hb); have n4_ := Aside0.mk (below_step (by repeat (first | (with_reducible first | exact HB.out | apply below_alloc | apply pw_below_drewN | apply below_drew1 | refine below_set ?_ GE473.out | refine below_set ?_ GE497.out) | exact HB.out)) hb); have n5_ := Aside0.mk (hbox); have n6_ := Aside0.mk ((by rw [hg]; exact (below_size (by repeat (first | (with_reducible first | exact HB.out | apply below_alloc | apply pw_below_drewN | apply below_drew1 | refine below_set ?_ GE473.out | refine below_set ?_ GE497.out) | exact HB.out))) : w.heap.size ≤ gb520)); have n7_ := Aside0.mk ((by rw [hg]; exact (below_size (by repeat (first | (with_reducible first | exact HB.out | apply below_alloc | apply pw_below_drewN | apply below_drew1 | refine below_set ?_ GE473.out | refine below_set ?_ GE497.out) | exact HB.out))) : w.heap.size ≤ gb520)); have n8_ := Aside0.mk ((by rw [hg]; exact Nat.ne_of_lt (blk_lt (g := gb473) (o := .cells #[.int .i64 a0_0, .bool a0_1, .bool a0_2, .int .i64 a0_3, .int .u8 a0_4, .int .u8 a0_5, .int .u8 a0_6, .int .u8 a0_7, .int .u8 a0_8, .int .u8 a0_9, .int .u8 a0_10, .int .u8 a0_11] 24 (0, 0)) (by (with_reducible repeat (first | refine blk_drewN ?_ _ | refine blk_drew ?_ | refine blk_alloc ?_ _)); exact BK473.out)) : gb473 ≠ gb520)); have n9_ := Aside0.mk ((by rw [hg]; exact Nat.ne_of_gt (blk_lt (g := gb473) (o := .cells #[.int .i64 a0_0, .bool a0_1, .bool a0_2, .int .i64 a0_3, .int .u8 a0_4, .int .u8 a0_5, .int .u8 a0_6, .int .u8 a0_7, .int .u8 a0_8, .int .u8 a0_9, .int .u8 a0_10, .int .u8 a0_11] 24 (0, 0)) (by (with_reducible repeat (first | refine blk_drewN ?_ _ | refine blk_drew ?_ | refine blk_alloc ?_ _)); exact BK473.out)) : gb520 ≠ gb473)); have n10_ := Aside0.mk ((by rw [hg]; exact Nat.ne_of_lt (blk_lt (g := gb497) (o := .cells #[.int .i64 t484, .bool t485, .bool t486, .int .i64 t487, .int .u8 t488, .int .u8 t489, .int .u8 t490, .int .u8 t491, .int .u8 t492, .int .u8 t493, .int .u8 t494, .int .u8 t495] 24 (0, 0)) (by (with_reducible repeat (first | refine blk_drewN ?_ _ | refine blk_drew ?_ | refine blk_alloc ?_ _)); exact BK497.out)) : gb497 ≠ gb520)); have n11_ := Aside0.mk ((by rw [hg]; exact Nat.ne_of_gt (blk_lt (g := gb497) (o := .cells #[.int .i64 t484, .bool t485, .bool t486, .int .i64 t487, .int .u8 t488, .int .u8 t489, .int .u8 t490, .int .u8 t491, .int .u8 t492, .int .u8 t493, .int .u8 t494, .int .u8 t495] 24 (0, 0)) (by (with_reducible repeat (first | refine blk_drewN ?_ _ | refine blk_drew ?_ | refine blk_alloc ?_ _)); exact BK497.out)) : gb520 ≠ gb497)); clear HO_7; clear HO506; clear BK473; clear BK497; clear HB; have HO_7 := n0_; have HO506 := n1_; have BK473 := n2_; have BK497 := n3_; have HB := n4_; have BK520 := n5_; have GW520 := n6_; have GE520 := n7_; have NB473_520 := n8_; have NB520_473 := n9_; have NB497_520 := n10_; have NB520_497 := n11_; clear n0_ n1_ n2_ n3_ n4_ n5_ n6_ n7_ n8_ n9_ n10_ n11_; clear hb hbox hg; have hnb65 := NB520_473.out; have hnc65 := NB473_520.out; have hnb66 := NB520_497.out; have hnc66 := NB497_520.out; have hcz67_0 : w64.cell? ⟨gb520, 0, none⟩ = some (.int .i64 0) := (blk_cell BK520.out 0).trans rfl; have hcz67_1 : w64.cell? ⟨gb520, 1, none⟩ = some (.bool false) := (blk_cell BK520.out 1).trans rfl; have hcz67_2 : w64.cell? ⟨gb520, 2, none⟩ = some (.bool false) := (blk_cell BK520.out 2).trans rfl; have hcz67_3 : w64.cell? ⟨gb520, 3, none⟩ = some (.int .i64 0) := (blk_cell BK520.out 3).trans rfl; have hcz67_4 : w64.cell? ⟨gb520, 4, none⟩ = some (.int .u8 0) := (blk_cell BK520.out 4).trans rfl; have hcz67_5 : w64.cell? ⟨gb520, 5, none⟩ = some (.int .u8 0) := (blk_cell BK520.out 5).trans rfl; have hcz67_6 : w64.cell? ⟨gb520, 6, none⟩ = some (.int .u8 0) := (blk_cell BK520.out 6).trans rfl; have hcz67_7 : w64.cell? ⟨gb520, 7, none⟩ = some (.int .u8 0) := (blk_cell BK520.out 7).trans rfl; have hcz67_8 : w64.cell? ⟨gb520, 8, none⟩ = some (.int .u8 0) := (blk_cell BK520.out 8).trans rfl; have hcz67_9 : w64.cell? ⟨gb520, 9, none⟩ = some (.int .u8 0) := (blk_cell BK520.out 9).trans rfl; have hcz67_10 : w64.cell? ⟨gb520, 10, none⟩ = some (.int .u8 0) := (blk_cell BK520.out 10).trans rfl; have hcz67_11 : w64.cell? ⟨gb520, 11, none⟩ = some (.int .u8 0) := (blk_cell BK520.out 11).trans rfl; have hfz67_0 := blk_frozen BK520.out 0; have hfz67_1 := blk_frozen BK520.out 1; have hfz67_2 := blk_frozen BK520.out 2; have hfz67_3 := blk_frozen BK520.out 3; have hfz67_4 := blk_frozen BK520.out 4; have hfz67_5 := blk_frozen BK520.out 5; have hfz67_6 := blk_frozen BK520.out 6; have hfz67_7 := blk_frozen BK520.out 7; have hfz67_8 := blk_frozen BK520.out 8; have hfz67_9 := blk_frozen BK520.out 9; have hfz67_10 := blk_frozen BK520.out 10; have hfz67_11 := blk_frozen BK520.out 11; have hcz68_0 : w64.cell? ⟨gb497, 0, none⟩ = some (.int .i64 t484) := (blk_cell BK497.out 0).trans rfl; have hcz68_1 : w64.cell? ⟨gb497, 1, none⟩ = some (.bool t485) := (blk_cell BK497.out 1).trans rfl; have hcz68_2 : w64.cell? ⟨gb497, 2, none⟩ = some (.bool t486) := (blk_cell BK497.out 2).trans rfl; have hcz68_3 : w64.cell? ⟨gb497, 3, none⟩ = some (.int .i64 t487) := (blk_cell BK497.out 3).trans rfl; have hcz68_4 : w64.cell? ⟨gb497, 4, none⟩ = some (.int .u8 t488) := (blk_cell BK497.out 4).trans rfl; have hcz68_5 : w64.cell? ⟨gb497, 5, none⟩ = some (.int .u8 t489) := (blk_cell BK497.out 5).trans rfl; have hcz68_6 : w64.cell? ⟨gb497, 6, none⟩ = some (.int .u8 t490) := (blk_cell BK497.out 6).trans rfl; have hcz68_7 : w64.cell? ⟨gb497, 7, none⟩ = some (.int .u8 t491) := (blk_cell BK497.out 7).trans rfl; have hcz68_8 : w64.cell? ⟨gb497, 8, none⟩ = some (.int .u8 t492) := (blk_cell BK497.out 8).trans rfl; have hcz68_9 : w64.cell? ⟨gb497, 9, none⟩ = some (.int .u8 t493) := (blk_cell BK497.out 9).trans rfl; have hcz68_10 : w64.cell? ⟨gb497, 10, none⟩ = some (.int .u8 t494) := (blk_cell BK497.out 10).trans rfl; have hcz68_11 : w64.cell? ⟨gb497, 11, none⟩ = some (.int .u8 t495) := (blk_cell BK497.out 11).trans rfl; have hfz68_0 := blk_frozen BK497.out 0; have hfz68_1 := blk_frozen BK497.out 1; have hfz68_2 := blk_frozen BK497.out 2; have hfz68_3 := blk_frozen BK497.out 3; have hfz68_4 := blk_frozen BK497.out 4; have hfz68_5 := blk_frozen BK497.out 5; have hfz68_6 := blk_frozen BK497.out 6; have hfz68_7 := blk_frozen BK497.out 7; have hfz68_8 := blk_frozen BK497.out 8; have hfz68_9 := blk_frozen BK497.out 9; have hfz68_10 := blk_frozen BK497.out 10; have hfz68_11 := blk_frozen BK497.out 11; have hcz69_0 : w64.cell? ⟨gb473, 0, none⟩ = some (.int .i64 a0_0) := (blk_cell BK473.out 0).trans rfl; have hcz69_1 : w64.cell? ⟨gb473, 1, none⟩ = some (.bool a0_1) := (blk_cell BK473.out 1).trans rfl; have hcz69_2 : w64.cell? ⟨gb473, 2, none⟩ = some (.bool a0_2) := (blk_cell BK473.out 2).trans rfl; have hcz69_3 : w64.cell? ⟨gb473, 3, none⟩ = some (.int .i64 a0_3) := (blk_cell BK473.out 3).trans rfl; have hcz69_4 : w64.cell? ⟨gb473, 4, none⟩ = some (.int .u8 a0_4) := (blk_cell BK473.out 4).trans rfl; have hcz69_5 : w64.cell? ⟨gb473, 5, none⟩ = some (.int .u8 a0_5) := (blk_cell BK473.out 5).trans rfl; have hcz69_6 : w64.cell? ⟨gb473, 6, none⟩ = some (.int .u8 a0_6) := (blk_cell BK473.out 6).trans rfl; have hcz69_7 : w64.cell? ⟨gb473, 7, none⟩ = some (.int .u8 a0_7) := (blk_cell BK473.out 7).trans rfl; have hcz69_8 : w64.cell? ⟨gb473, 8, none⟩ = some (.int .u8 a0_8) := (blk_cell BK473.out 8).trans rfl; have hcz69_9 : w64.cell? ⟨gb473, 9, none⟩ = some (.int .u8 a0_9) := (blk_cell BK473.out 9).trans rfl; have hcz69_10 : w64.cell? ⟨gb473, 10, none⟩ = some (.int .u8 a0_10) := (blk_cell BK473.out 10).trans rfl; have hcz69_11 : w64.cell? ⟨gb473, 11, none⟩ = some (.int .u8 a0_11) := (blk_cell BK473.out 11).trans rfl; have hfz69_0 := blk_frozen BK473.out 0; have hfz69_1 := blk_frozen BK473.out 1; have hfz69_2 := blk_frozen BK473.out 2; have hfz69_3 := blk_frozen BK473.out 3; have hfz69_4 := blk_frozen BK473.out 4; have hfz69_5 := blk_frozen BK473.out 5; have hfz69_6 := blk_frozen BK473.out 6; have hfz69_7 := blk_frozen BK473.out 7; have hfz69_8 := blk_frozen BK473.out 8; have hfz69_9 := blk_frozen BK473.out 9; have hfz69_10 := blk_frozen BK473.out 10; have hfz69_11 := blk_frozen BK473.out 11) | (go_at_call 19; (with_reducible refine (magnetolaw04_awake.calls k3  t521 _ A52.out).mono ?_); rintro e w70 ⟨rfl, hb⟩; have n0_ := Aside0.mk (Kd.R_below (by (with_reducible repeat (first | apply Kd.R_alloc | apply Kd.R_drewN | apply Kd.R_drew)); exact (Kd.R_mono (Kd.R_far (p := ⟨gb520, 11, none⟩) (Kd.R_far (p := ⟨gb520, 10, none⟩) (Kd.R_far (p := ⟨gb520, 9, none⟩) (Kd.R_far (p := ⟨gb520, 8, none⟩) (Kd.R_far (p := ⟨gb520, 7, none⟩) (Kd.R_far (p := ⟨gb520, 6, none⟩) (Kd.R_far (p := ⟨gb520, 5, none⟩) (Kd.R_far (p := ⟨gb520, 4, none⟩) (Kd.R_far (p := ⟨gb520, 3, none⟩) (Kd.R_far (p := ⟨gb520, 2, none⟩) (Kd.R_far (p := ⟨gb520, 1, none⟩) (Kd.R_far (p := ⟨gb520, 0, none⟩) (Kd.R_types HO_7.out BK520.out (by decide)) (fun _ hk => hk.2) (.int .i64 t507)) (fun _ hk => hk.2) (.bool t508)) (fun _ hk => hk.2) (.bool t509)) (fun _ hk => hk.2) (.int .i64 t510)) (fun _ hk => hk.2) (.int .u8 t511)) (fun _ hk => hk.2) (.int .u8 t512)) (fun _ hk => hk.2) (.int .u8 t513)) (fun _ hk => hk.2) (.int .u8 t514)) (fun _ hk => hk.2) (.int .u8 t515)) (fun _ hk => hk.2) (.int .u8 t516)) (fun _ hk => hk.2) (.int .u8 t517)) (fun _ hk => hk.2) (.int .u8 t518)) (fun _ h_ => h_.1))) hb); have n1_ := Aside0.mk (Kd.R_below (by (with_reducible repeat (first | apply Kd.R_alloc | apply Kd.R_drewN | apply Kd.R_drew)); exact (Kd.R_mono (Kd.R_far (p := ⟨gb520, 11, none⟩) (Kd.R_far (p := ⟨gb520, 10, none⟩) (Kd.R_far (p := ⟨gb520, 9, none⟩) (Kd.R_far (p := ⟨gb520, 8, none⟩) (Kd.R_far (p := ⟨gb520, 7, none⟩) (Kd.R_far (p := ⟨gb520, 6, none⟩) (Kd.R_far (p := ⟨gb520, 5, none⟩) (Kd.R_far (p := ⟨gb520, 4, none⟩) (Kd.R_far (p := ⟨gb520, 3, none⟩) (Kd.R_far (p := ⟨gb520, 2, none⟩) (Kd.R_far (p := ⟨gb520, 1, none⟩) (Kd.R_far (p := ⟨gb520, 0, none⟩) (Kd.R_types HO506.out BK520.out (by decide)) (fun _ hk => hk.2) (.int .i64 t507)) (fun _ hk => hk.2) (.bool t508)) (fun _ hk => hk.2) (.bool t509)) (fun _ hk => hk.2) (.int .i64 t510)) (fun _ hk => hk.2) (.int .u8 t511)) (fun _ hk => hk.2) (.int .u8 t512)) (fun _ hk => hk.2) (.int .u8 t513)) (fun _ hk => hk.2) (.int .u8 t514)) (fun _ hk => hk.2) (.int .u8 t515)) (fun _ hk => hk.2) (.int .u8 t516)) (fun _ hk => hk.2) (.int .u8 t517)) (fun _ hk => hk.2) (.int .u8 t518)) (fun _ h_ => h_.1))) hb); have n2_ := Aside0.mk (blk_below (g := gb473) (o := .cells #[.int .i64 a0_0, .bool a0_1, .bool a0_2, .int .i64 a0_3, .int .u8 a0_4, .int .u8 a0_5, .int .u8 a0_6, .int .u8 a0_7, .int .u8 a0_8, .int .u8 a0_9, .int .u8 a0_10, .int .u8 a0_11] 24 (0, 0)) (by (with_reducible repeat (first | refine blk_drewN ?_ _ | refine blk_drew ?_ | refine blk_alloc ?_ _)); refine blk_far ?_ NB473_520.out _; (with_reducible repeat (first | refine blk_drewN ?_ _ | refine blk_drew ?_ | refine blk_alloc ?_ _)); refine blk_far ?_ NB473_520.out _; (with_reducible repeat (first | refine blk_drewN ?_ _ | refine blk_drew ?_ | refine blk_alloc ?_ _)); refine blk_far ?_ NB473_520.out _; (with_reducible repeat (first | refine blk_drewN ?_ _ | refine blk_drew ?_ | refine blk_alloc ?_ _)); refine blk_far ?_ NB473_520.out _; (with_reducible repeat (first | refine blk_drewN ?_ _ | refine blk_drew ?_ | refine blk_alloc ?_ _)); refine blk_far ?_ NB473_520.out _; (with_reducible repeat (first | refine blk_drewN ?_ _ | refine blk_drew ?_ | refine blk_alloc ?_ _)); refine blk_far ?_ NB473_520.out _; (with_reducible repeat (first | refine blk_drewN ?_ _ | refine blk_drew ?_ | refine blk_alloc ?_ _)); refine blk_far ?_ NB473_520.out _; (with_reducible repeat (first | refine blk_drewN ?_ _ | refine blk_drew ?_ | refine blk_alloc ?_ _)); refine blk_far ?_ NB473_520.out _; (with_reducible repeat (first | refine blk_drewN ?_ _ | refine blk_drew ?_ | refine blk_alloc ?_ _)); refine blk_far ?_ NB473_520.out _; (with_reducible repeat (first | refine blk_drewN ?_ _ | refine blk_drew ?_ | refine blk_alloc ?_ _)); refine blk_far ?_ NB473_520.out _; (with_reducible repeat (first | refine blk_drewN ?_ _ | refine blk_drew ?_ | refine blk_alloc ?_ _)); refine blk_far ?_ NB473_520.out _; (with_reducible repeat (first | refine blk_drewN ?_ _ | refine blk_drew ?_ | refine blk_alloc ?_ _)); refine blk_far ?_ NB473_520.out _; (with_reducible repeat (first | refine blk_drewN ?_ _ | refine blk_drew ?_ | refine blk_alloc ?_ _)); exact BK473.out) hb); have n3_ := Aside0.mk (blk_below (g := gb497) (o := .cells #[.int .i64 t484, .bool t485, .bool t486, .int .i64 t487, .int .u8 t488, .int .u8 t489, .int .u8 t490, .int .u8 t491, .int .u8 t492, .int .u8 t493, .int .u8 t494, .int .u8 t495] 24 (0, 0)) (by (with_reducible repeat (first | refine blk_drewN ?_ _ | refine blk_drew ?_ | refine blk_alloc ?_ _)); refine blk_far ?_ NB497_520.out _; (with_reducible repeat (first | refine blk_drewN ?_ _ | refine blk_drew ?_ | refine blk_alloc ?_ _)); refine blk_far ?_ NB497_520.out _; (with_reducible repeat (first | refine blk_drewN ?_ _ | refine blk_drew ?_ | refine blk_alloc ?_ _)); refine blk_far ?_ NB497_520.out _; (with_reducible repeat (first | refine blk_drewN ?_ _ | refine blk_drew ?_ | refine blk_alloc ?_ _)); refine blk_far ?_ NB497_520.out _; (with_reducible repeat (first | refine blk_drewN ?_ _ | refine blk_drew ?_ | refine blk_alloc ?_ _)); refine blk_far ?_ NB497_520.out _; (with_reducible repeat (first | refine blk_drewN ?_ _ | refine blk_drew ?_ | refine blk_alloc ?_ _)); refine blk_far ?_ NB497_520.out _; (with_reducible repeat (first | refine blk_drewN ?_ _ | refine blk_drew ?_ | refine blk_alloc ?_ _)); refine blk_far ?_ NB497_520.out _; (with_reducible repeat (first | refine blk_drewN ?_ _ | refine blk_drew ?_ | refine blk_alloc ?_ _)); refine blk_far ?_ NB497_520.out _; (with_reducible repeat (first | refine blk_drewN ?_ _ | refine blk_drew ?_ | refine blk_alloc ?_ _)); refine blk_far ?_ NB497_520.out _; (with_reducible repeat (first | refine blk_drewN ?_ _ | refine blk_drew ?_ | refine blk_alloc ?_ _)); refine blk_far ?_ NB497_520.out _; (with_reducible repeat (first | refine blk_drewN ?_ _ | refine blk_drew ?_ | refine blk_alloc ?_ _)); refine blk_far ?_ NB497_520.out _; (with_reducible repeat (first | refine blk_drewN ?_ _ | refine blk_drew ?_ | refine blk_alloc ?_ _)); refine blk_far ?_ NB497_520.out _; (with_reducible repeat (first | refine blk_drewN ?_ _ | refine blk_drew ?_ | refine blk_alloc ?_ _)); exact BK497.out) hb); have n4_ := Aside0.mk (blk_below (g := gb520) (o := .cells #[.int .i64 t507, .bool t508, .bool t509, .int .i64 t510, .int .u8 t511, .int .u8 t512, .int .u8 t513, .int .u8 t514, .int .u8 t515, .int .u8 t516, .int .u8 t517, .int .u8 t518] 24 (0, 0)) (by (with_reducible repeat (first | refine blk_drewN ?_ _ | refine blk_drew ?_ | refine blk_alloc ?_ _)); refine blk_put (cs := #[.int .i64 t507, .bool t508, .bool t509, .int .i64 t510, .int .u8 t511, .int .u8 t512, .int .u8 t513, .int .u8 t514, .int .u8 t515, .int .u8 t516, .int .u8 t517, .int .u8 0]) ?_ 11 _ rfl; (with_reducible repeat (first | refine blk_drewN ?_ _ | refine blk_drew ?_ | refine blk_alloc ?_ _)); refine blk_put (cs := #[.int .i64 t507, .bool t508, .bool t509, .int .i64 t510, .int .u8 t511, .int .u8 t512, .int .u8 t513, .int .u8 t514, .int .u8 t515, .int .u8 t516, .int .u8 0, .int .u8 0]) ?_ 10 _ rfl; (with_reducible repeat (first | refine blk_drewN ?_ _ | refine blk_drew ?_ | refine blk_alloc ?_ _)); refine blk_put (cs := #[.int .i64 t507, .bool t508, .bool t509, .int .i64 t510, .int .u8 t511, .int .u8 t512, .int .u8 t513, .int .u8 t514, .int .u8 t515, .int .u8 0, .int .u8 0, .int .u8 0]) ?_ 9 _ rfl; (with_reducible repeat (first | refine blk_drewN ?_ _ | refine blk_drew ?_ | refine blk_alloc ?_ _)); refine blk_put (cs := #[.int .i64 t507, .bool t508, .bool t509, .int .i64 t510, .int .u8 t511, .int .u8 t512, .int .u8 t513, .int .u8 t514, .int .u8 0, .int .u8 0, .int .u8 0, .int .u8 0]) ?_ 8 _ rfl; (with_reducible repeat (first | refine blk_drewN ?_ _ | refine blk_drew ?_ | refine blk_alloc ?_ _)); refine blk_put (cs := #[.int .i64 t507, .bool t508, .bool t509, .int .i64 t510, .int .u8 t511, .int .u8 t512, .int .u8 t513, .int .u8 0, .int .u8 0, .int .u8 0, .int .u8 0, .int .u8 0]) ?_ 7 _ rfl; (with_reducible repeat (first | refine blk_drewN ?_ _ | refine blk_drew ?_ | refine blk_alloc ?_ _)); refine blk_put (cs := #[.int .i64 t507, .bool t508, .bool t509, .int .i64 t510, .int .u8 t511, .int .u8 t512, .int .u8 0, .int .u8 0, .int .u8 0, .int .u8 0, .int .u8 0, .int .u8 0]) ?_ 6 _ rfl; (with_reducible repeat (first | refine blk_drewN ?_ _ | refine blk_drew ?_ | refine blk_alloc ?_ _)); refine blk_put (cs := #[.int .i64 t507, .bool t508, .bool t509, .int .i64 t510, .int .u8 t511, .int .u8 0, .int .u8 0, .int .u8 0, .int .u8 0, .int .u8 0, .int .u8 0, .int .u8 0]) ?_ 5 _ rfl; (with_reducible repeat (first | refine blk_drewN ?_ _ | refine blk_drew ?_ | refine blk_alloc ?_ _)); refine blk_put (cs := #[.int .i64 t507, .bool t508, .bool t509, .int .i64 t510, .int .u8 0, .int .u8 0, .int .u8 0, .int .u8 0, .int .u8 0, .int .u8 0, .int .u8 0, .int .u8 0]) ?_ 4 _ rfl; (with_reducible repeat (first | refine blk_drewN ?_ _ | refine blk_drew ?_ | refine blk_alloc ?_ _)); refine blk_put (cs := #[.int .i64 t507, .bool t508, .bool t509, .int .i64 0, .int .u8 0, .int .u8 0, .int .u8 0, .int .u8 0, .int .u8 0, .int .u8 0, .int .u8 0, .int .u8 0]) ?_ 3 _ rfl; (with_reducible repeat (first | refine blk_drewN ?_ _ | refine blk_drew ?_ | refine blk_alloc ?_ _)); refine blk_put (cs := #[.int .i64 t507, .bool t508, .bool false, .int .i64 0, .int .u8 0, .int .u8 0, .int .u8 0, .int .u8 0, .int .u8 0, .int .u8 0, .int .u8 0, .int .u8 0]) ?_ 2 _ rfl; (with_reducible repeat (first | refine blk_drewN ?_ _ | refine blk_drew ?_ | refine blk_alloc ?_ _)); refine blk_put (cs := #[.int .i64 t507, .bool false, .bool false, .int .i64 0, .int .u8 0, .int .u8 0, .int .u8 0, .int .u8 0, .int .u8 0, .int .u8 0, .int .u8 0, .int .u8 0]) ?_ 1 _ rfl; (with_reducible repeat (first | refine blk_drewN ?_ _ | refine blk_drew ?_ | refine blk_alloc ?_ _)); refine blk_put (cs := #[.int .i64 0, .bool false, .bool false, .int .i64 0, .int .u8 0, .int .u8 0, .int .u8 0, .int .u8 0, .int .u8 0, .int .u8 0, .int .u8 0, .int .u8 0]) ?_ 0 _ rfl; (with_reducible repeat (first | refine blk_drewN ?_ _ | refine blk_drew ?_ | refine blk_alloc ?_ _)); exact BK520.out) hb); have n5_ := Aside0.mk (below_step (by repeat (first | (with_reducible first | exact HB.out | apply below_alloc | apply pw_below_drewN | apply below_drew1 | refine below_set ?_ GE473.out | refine below_set ?_ GE497.out | refine below_set ?_ GE520.out) | exact HB.out)) hb); clear HO_7; clear HO506; clear BK473; clear BK497; clear BK520; clear HB; have HO_7 := n0_; have HO506 := n1_; have BK473 := n2_; have BK497 := n3_; have BK520 := n4_; have HB := n5_; clear n0_ n1_ n2_ n3_ n4_ n5_; (try clear hb); (try clear hb2); (try clear hk); (try clear hi)))
                  go_ret
                  exact ⟨by first | rfl | (rw [Int.tdiv_eq_ediv_of_nonneg (by assumption)]; done) | (simp [errW_none, errW_some] <;> rfl) | (simp [*, errW_none, errW_some] <;> rfl), by repeat (first | (with_reducible first | exact HB.out | apply below_alloc | apply pw_below_drewN | apply below_drew1 | refine below_set ?_ GE473.out | refine below_set ?_ GE497.out | refine below_set ?_ GE520.out) | exact HB.out)⟩
                 ·
                  rw [if_neg c51] at H
                  exact absurd H (by simp)
                ·
                 rw [if_neg c50] at H
                 exact absurd H (by simp)
               ·
                rw [if_neg c49] at H
                exact absurd H (by simp)
              ·
               rw [if_neg c48] at H
               exact absurd H (by simp)
             ·
              rw [if_neg c47] at H
              exact absurd H (by simp)
            ·
             rw [if_neg c46] at H
             exact absurd H (by simp)
           ·
            rw [if_neg c44] at H
            exact absurd H (by simp)
          ·
           rw [if_neg c43] at H
           exact absurd H (by simp)

end Go.Proofs.Ytakemodmdhglnaa.PA
