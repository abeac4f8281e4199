/- Functions of the program, in plain Lean, and their walks (printed; half the indent). Conditions: none. -/
-- PRINTED by print.py (a twelfth state) out of the translation. Not trusted: Lean checks it.
import Derived.Test.YtakemodmdhglnaaPAx0
import Derived.Test.YtakemodmdhglnaaPAx1
import Derived.Test.YtakemodmdhglnaaPAx3
import Derived.Test.YtakemodmdhglnaaPAx7
import Derived.Test.YtakemodmdhglnaaPAx13
import Derived.Test.YtakemodmdhglnaaPAx14
import Derived.Test.YtakemodmdhglnaaPAx18
import Derived.Test.YtakemodmdhglnaaPAx19
import Derived.Test.YtakemodmdhglnaaPAx20
import Derived.Test.YtakemodmdhglnaaPAx27
namespace Go.Proofs.Ytakemodmdhglnaa.PA
open Go.RowKit Go.Proofs.YtakemodmdhglnaaW.PrintWords Go.Proofs.YtakemodmdhglnaaW.PrintLast Go.Proofs.YtakemodmdhglnaaW.PrintMore
attribute [local go_sem] max2_int min2_int max_two min_two max_three min_three max_four min_four   -- for this text's walks alone
set_option linter.unusedVariables false
set_option linter.unusedSimpArgs false

attribute [local go_sem high] eqA24
/-! ### magnetolaw04_FieldBack: function 8 -/
mutual
def magnetolaw04_FieldBack.j0 : Nat → Int → Int → List Int → Int → Bool → Int → Bool → Bool → Int → Int → Int → Int → Int → Int → Int → Int → Int → Option (Bool)
 | 0, _, _, _, _, _, _, _, _, _, _, _, _, _, _, _, _, _ => none
 | k + 1, x1, x2, x7, x11, x95, x603000, x603001, x603002, x603003, x603004, x603005, x603006, x603007, x603008, x603009, x603010, x603011 => if x95 = true then (none) else (if x1 ≥ 0 then (magnetolaw04_FieldBack.j1 k x1 x2 x7 x11 (decide (x1 ≤ (x7.length : Int))) x603000 x603001 x603002 x603003 x603004 x603005 x603006 x603007 x603008 x603009 x603010 x603011) else (magnetolaw04_FieldBack.j1 k x1 x2 x7 x11 false x603000 x603001 x603002 x603003 x603004 x603005 x603006 x603007 x603008 x603009 x603010 x603011))
def magnetolaw04_FieldBack.j1 : Nat → Int → Int → List Int → Int → Bool → Int → Bool → Bool → Int → Int → Int → Int → Int → Int → Int → Int → Int → Option (Bool)
 | 0, _, _, _, _, _, _, _, _, _, _, _, _, _, _, _, _, _ => none
 | k + 1, x1, x2, x7, x11, x103, x603000, x603001, x603002, x603003, x603004, x603005, x603006, x603007, x603008, x603009, x603010, x603011 => if x103 = true then (if 0 ≤ x1 then (if x1 ≤ (x7.length : Int) then ((field_Frame.f k (x7.take (x1 : Int).toNat)).bind fun bt626 => (if x1 < x11 then (if (!(bt626.1 == 0) || (bt626.2.1 || (bt626.2.2.1 || (!(bt626.2.2.2.1 == 0) || ((!(bt626.2.2.2.2.1 == 0) || (!(bt626.2.2.2.2.2.1 == 0) || (!(bt626.2.2.2.2.2.2.1 == 0) || (!(bt626.2.2.2.2.2.2.2.1 == 0) || (!(bt626.2.2.2.2.2.2.2.2.1 == 0) || (!(bt626.2.2.2.2.2.2.2.2.2.1 == 0) || (!(bt626.2.2.2.2.2.2.2.2.2.2.1 == 0) || (!(bt626.2.2.2.2.2.2.2.2.2.2.2.1 == 0)))))))))))))) = true then (none) else (if bt626.2.2.2.2.2.2.2.2.2.2.2.2 = 13 then (if x1 ≥ x11 then (if (!(bt626.1 == x603000) || (!(bt626.2.1 == x603001) || (!(bt626.2.2.1 == x603002) || (!(bt626.2.2.2.1 == x603003) || ((!(bt626.2.2.2.2.1 == x603004) || (!(bt626.2.2.2.2.2.1 == x603005) || (!(bt626.2.2.2.2.2.2.1 == x603006) || (!(bt626.2.2.2.2.2.2.2.1 == x603007) || (!(bt626.2.2.2.2.2.2.2.2.1 == x603008) || (!(bt626.2.2.2.2.2.2.2.2.2.1 == x603009) || (!(bt626.2.2.2.2.2.2.2.2.2.2.1 == x603010) || (!(bt626.2.2.2.2.2.2.2.2.2.2.2.1 == x603011)))))))))))))) = true then (none) else (if bt626.2.2.2.2.2.2.2.2.2.2.2.2 = 0 then (magnetolaw04_FieldBack.j2 k x2 x7 x11 x603000 x603001 x603002 x603003 x603004 x603005 x603006 x603007 x603008 x603009 x603010 x603011) else (none))) else (magnetolaw04_FieldBack.j2 k x2 x7 x11 x603000 x603001 x603002 x603003 x603004 x603005 x603006 x603007 x603008 x603009 x603010 x603011)) else (none))) else (if x1 ≥ x11 then (if (!(bt626.1 == x603000) || (!(bt626.2.1 == x603001) || (!(bt626.2.2.1 == x603002) || (!(bt626.2.2.2.1 == x603003) || ((!(bt626.2.2.2.2.1 == x603004) || (!(bt626.2.2.2.2.2.1 == x603005) || (!(bt626.2.2.2.2.2.2.1 == x603006) || (!(bt626.2.2.2.2.2.2.2.1 == x603007) || (!(bt626.2.2.2.2.2.2.2.2.1 == x603008) || (!(bt626.2.2.2.2.2.2.2.2.2.1 == x603009) || (!(bt626.2.2.2.2.2.2.2.2.2.2.1 == x603010) || (!(bt626.2.2.2.2.2.2.2.2.2.2.2.1 == x603011)))))))))))))) = true then (none) else (if bt626.2.2.2.2.2.2.2.2.2.2.2.2 = 0 then (magnetolaw04_FieldBack.j2 k x2 x7 x11 x603000 x603001 x603002 x603003 x603004 x603005 x603006 x603007 x603008 x603009 x603010 x603011) else (none))) else (magnetolaw04_FieldBack.j2 k x2 x7 x11 x603000 x603001 x603002 x603003 x603004 x603005 x603006 x603007 x603008 x603009 x603010 x603011)))) else (none)) else (none)) else (magnetolaw04_FieldBack.j2 k x2 x7 x11 x603000 x603001 x603002 x603003 x603004 x603005 x603006 x603007 x603008 x603009 x603010 x603011)
def magnetolaw04_FieldBack.j2 : Nat → Int → List Int → Int → Int → Bool → Bool → Int → Int → Int → Int → Int → Int → Int → Int → Int → Option (Bool)
 | 0, _, _, _, _, _, _, _, _, _, _, _, _, _, _, _ => none
 | k + 1, x2, x7, x11, x603000, x603001, x603002, x603003, x603004, x603005, x603006, x603007, x603008, x603009, x603010, x603011 => if x603002 = true then (magnetolaw04_FieldBack.j3 k x2 x7 x11 0) else (magnetolaw04_FieldBack.j3 k x2 x7 x11 (wrap64 (8 * x603003)))
def magnetolaw04_FieldBack.j3 : Nat → Int → List Int → Int → Int → Option (Bool)
 | 0, _, _, _, _ => none
 | k + 1, x2, x7, x11, x17 => if (wrap64 (x17 + 15)) = 0 then (none) else (if (wrap64 ((wrap64 (x11 - x17)) + (Int.tmod (wrap64 ((Int.tmod x2 (wrap64 (x17 + 15))) + (wrap64 (x17 + 15)))) (wrap64 (x17 + 15))))) < 0 then (none) else (magnetolaw04_FieldBack.j4 k x7 (wrap64 ((wrap64 (x11 - x17)) + (Int.tmod (wrap64 ((Int.tmod x2 (wrap64 (x17 + 15))) + (wrap64 (x17 + 15)))) (wrap64 (x17 + 15))))) (decide ((wrap64 ((wrap64 (x11 - x17)) + (Int.tmod (wrap64 ((Int.tmod x2 (wrap64 (x17 + 15))) + (wrap64 (x17 + 15)))) (wrap64 (x17 + 15))))) ≥ (x7.length : Int)))))
def magnetolaw04_FieldBack.j4 : Nat → List Int → Int → Bool → Option (Bool)
 | 0, _, _, _ => none
 | k + 1, x7, x19, x163 => if x163 = true then (none) else (if 0 ≤ x19 then (if x19 < (x7.length : Int) then ((field_Right.f k (x7.set (x19 : Int).toNat (wrap64 (1 - (rd x7 x19))))).bind fun bt642 => (if bt642.2 = 0 then (if bt642.1 = true then (none) else ((magnetolaw04_awake.f k).bind fun t644 => (some t644))) else (none))) else (none)) else (none))
end
def magnetolaw04_FieldBack.f (k : Nat) (a0_0 : Int) (a0_1 : Bool) (a0_2 : Bool) (a0_3 : Int) (a0_4 : Int) (a0_5 : Int) (a0_6 : Int) (a0_7 : Int) (a0_8 : Int) (a0_9 : Int) (a0_10 : Int) (a0_11 : Int) (a1 : Int) (a2 : Int) : Option (Bool) := (field_All.f k a0_0 a0_1 a0_2 a0_3 a0_4 a0_5 a0_6 a0_7 a0_8 a0_9 a0_10 a0_11).bind fun bt603 => ((field_Bits.f a0_0 a0_1 a0_2 a0_3 a0_4 a0_5 a0_6 a0_7 a0_8 a0_9 a0_10 a0_11).bind fun bt607 => (if bt603.2 = 0 then ((field_Ahead.f bt603.1).bind fun bt613 => ((field_Right.f k bt603.1).bind fun bt615 => (if bt607.2 = 0 then (if bt613.2 = 0 then (if bt613.1 = (bt607.1.length : Int) then (if bt615.2 = 0 then (if bt615.1 = true then (if (bt603.1.length : Int) = (wrap64 (bt613.1 + 25)) then (if 0 ≤ bt613.1 then (if bt613.1 ≤ (bt603.1.length : Int) then ((magnetolaw04_ints.f k (bt603.1.take (bt613.1 : Int).toNat) bt607.1).bind fun t621 => (magnetolaw04_FieldBack.j0 k a1 a2 bt603.1 bt613.1 (!t621) a0_0 a0_1 a0_2 a0_3 a0_4 a0_5 a0_6 a0_7 a0_8 a0_9 a0_10 a0_11)) else (none)) else (none)) else (none)) else (none)) else (none)) else (none)) else (none)) else (none)))) else (if (bt603.1.length : Int) = 0 then ((frame_Check.f a0_0 a0_1 a0_2 a0_3 a0_4 a0_5 a0_6 a0_7 a0_8 a0_9 a0_10 a0_11).bind fun t611 => (if t611 = bt603.2 then (if bt607.2 = bt603.2 then ((magnetolaw04_awake.f k).bind fun t612 => (some t612)) else (none)) else (none))) else (none))))
theorem magnetolaw04_FieldBack.mono_l : ∀ k, (∀ y0 y1 y2 y3 y4 y5 y6 y7 y8 y9 y10 y11 y12 y13 y14 y15 y16, LeO (magnetolaw04_FieldBack.j0 k y0 y1 y2 y3 y4 y5 y6 y7 y8 y9 y10 y11 y12 y13 y14 y15 y16) (magnetolaw04_FieldBack.j0 (k + 1) y0 y1 y2 y3 y4 y5 y6 y7 y8 y9 y10 y11 y12 y13 y14 y15 y16)) ∧ (∀ y0 y1 y2 y3 y4 y5 y6 y7 y8 y9 y10 y11 y12 y13 y14 y15 y16, LeO (magnetolaw04_FieldBack.j1 k y0 y1 y2 y3 y4 y5 y6 y7 y8 y9 y10 y11 y12 y13 y14 y15 y16) (magnetolaw04_FieldBack.j1 (k + 1) y0 y1 y2 y3 y4 y5 y6 y7 y8 y9 y10 y11 y12 y13 y14 y15 y16)) ∧ (∀ y0 y1 y2 y3 y4 y5 y6 y7 y8 y9 y10 y11 y12 y13 y14, LeO (magnetolaw04_FieldBack.j2 k y0 y1 y2 y3 y4 y5 y6 y7 y8 y9 y10 y11 y12 y13 y14) (magnetolaw04_FieldBack.j2 (k + 1) y0 y1 y2 y3 y4 y5 y6 y7 y8 y9 y10 y11 y12 y13 y14)) ∧ (∀ y0 y1 y2 y3, LeO (magnetolaw04_FieldBack.j3 k y0 y1 y2 y3) (magnetolaw04_FieldBack.j3 (k + 1) y0 y1 y2 y3)) ∧ (∀ y0 y1 y2, LeO (magnetolaw04_FieldBack.j4 k y0 y1 y2) (magnetolaw04_FieldBack.j4 (k + 1) y0 y1 y2))
 | 0 => ⟨fun _ _ _ _ _ _ _ _ _ _ _ _ _ _ _ _ _ r h => by simp [magnetolaw04_FieldBack.j0] at h, fun _ _ _ _ _ _ _ _ _ _ _ _ _ _ _ _ _ r h => by simp [magnetolaw04_FieldBack.j1] at h, fun _ _ _ _ _ _ _ _ _ _ _ _ _ _ _ r h => by simp [magnetolaw04_FieldBack.j2] at h, fun _ _ _ _ r h => by simp [magnetolaw04_FieldBack.j3] at h, fun _ _ _ r h => by simp [magnetolaw04_FieldBack.j4] at h⟩
 | k + 1 => by
  obtain ⟨ih0, ih1, ih2, ih3, ih4⟩ := magnetolaw04_FieldBack.mono_l k
  refine ⟨?_, ?_, ?_, ?_, ?_⟩
  ·
   intro y0 y1 y2 y3 y4 y5 y6 y7 y8 y9 y10 y11 y12 y13 y14 y15 y16
   unfold magnetolaw04_FieldBack.j0
   repeat' first
   | (with_reducible exact ih0 _ _ _ _ _ _ _ _ _ _ _ _ _ _ _ _ _)
   | (with_reducible exact ih1 _ _ _ _ _ _ _ _ _ _ _ _ _ _ _ _ _)
   | (with_reducible exact ih2 _ _ _ _ _ _ _ _ _ _ _ _ _ _ _)
   | (with_reducible exact ih3 _ _ _ _)
   | (with_reducible exact ih4 _ _ _)
   | (with_reducible exact field_All.mono _ _ _ _ _ _ _ _ _ _ _ _ _)
   | (with_reducible exact field_Frame.mono _ _)
   | (with_reducible exact field_Right.mono _ _)
   | (with_reducible exact magnetolaw04_awake.mono _)
   | (with_reducible exact magnetolaw04_ints.mono _ _ _)
   | (with_reducible exact LeO.refl _)
   | (with_reducible exact LeO.none _)
   | (with_reducible refine LeO.ite ?_ ?_)
   | (with_reducible refine LeO.bind ?_ (fun _ => ?_))
   | exact ih0 _ _ _ _ _ _ _ _ _ _ _ _ _ _ _ _ _
   | exact ih1 _ _ _ _ _ _ _ _ _ _ _ _ _ _ _ _ _
   | exact ih2 _ _ _ _ _ _ _ _ _ _ _ _ _ _ _
   | exact ih3 _ _ _ _
   | exact ih4 _ _ _
   | exact field_All.mono _ _ _ _ _ _ _ _ _ _ _ _ _
   | exact field_Frame.mono _ _
   | exact field_Right.mono _ _
   | exact magnetolaw04_awake.mono _
   | exact magnetolaw04_ints.mono _ _ _
   | exact LeO.none _
   | refine LeO.ite ?_ ?_
   | refine LeO.bind ?_ (fun _ => ?_)
  ·
   intro y0 y1 y2 y3 y4 y5 y6 y7 y8 y9 y10 y11 y12 y13 y14 y15 y16
   unfold magnetolaw04_FieldBack.j1
   repeat' first
   | (with_reducible exact ih0 _ _ _ _ _ _ _ _ _ _ _ _ _ _ _ _ _)
   | (with_reducible exact ih1 _ _ _ _ _ _ _ _ _ _ _ _ _ _ _ _ _)
   | (with_reducible exact ih2 _ _ _ _ _ _ _ _ _ _ _ _ _ _ _)
   | (with_reducible exact ih3 _ _ _ _)
   | (with_reducible exact ih4 _ _ _)
   | (with_reducible exact field_All.mono _ _ _ _ _ _ _ _ _ _ _ _ _)
   | (with_reducible exact field_Frame.mono _ _)
   | (with_reducible exact field_Right.mono _ _)
   | (with_reducible exact magnetolaw04_awake.mono _)
   | (with_reducible exact magnetolaw04_ints.mono _ _ _)
   | (with_reducible exact LeO.refl _)
   | (with_reducible exact LeO.none _)
   | (with_reducible refine LeO.ite ?_ ?_)
   | (with_reducible refine LeO.bind ?_ (fun _ => ?_))
   | exact ih0 _ _ _ _ _ _ _ _ _ _ _ _ _ _ _ _ _
   | exact ih1 _ _ _ _ _ _ _ _ _ _ _ _ _ _ _ _ _
   | exact ih2 _ _ _ _ _ _ _ _ _ _ _ _ _ _ _
   | exact ih3 _ _ _ _
   | exact ih4 _ _ _
   | exact field_All.mono _ _ _ _ _ _ _ _ _ _ _ _ _
   | exact field_Frame.mono _ _
   | exact field_Right.mono _ _
   | exact magnetolaw04_awake.mono _
   | exact magnetolaw04_ints.mono _ _ _
   | exact LeO.none _
   | refine LeO.ite ?_ ?_
   | refine LeO.bind ?_ (fun _ => ?_)
  ·
   intro y0 y1 y2 y3 y4 y5 y6 y7 y8 y9 y10 y11 y12 y13 y14
   unfold magnetolaw04_FieldBack.j2
   repeat' first
   | (with_reducible exact ih0 _ _ _ _ _ _ _ _ _ _ _ _ _ _ _ _ _)
   | (with_reducible exact ih1 _ _ _ _ _ _ _ _ _ _ _ _ _ _ _ _ _)
   | (with_reducible exact ih2 _ _ _ _ _ _ _ _ _ _ _ _ _ _ _)
   | (with_reducible exact ih3 _ _ _ _)
   | (with_reducible exact ih4 _ _ _)
   | (with_reducible exact field_All.mono _ _ _ _ _ _ _ _ _ _ _ _ _)
   | (with_reducible exact field_Frame.mono _ _)
   | (with_reducible exact field_Right.mono _ _)
   | (with_reducible exact magnetolaw04_awake.mono _)
   | (with_reducible exact magnetolaw04_ints.mono _ _ _)
   | (with_reducible exact LeO.refl _)
   | (with_reducible exact LeO.none _)
   | (with_reducible refine LeO.ite ?_ ?_)
   | (with_reducible refine LeO.bind ?_ (fun _ => ?_))
   | exact ih0 _ _ _ _ _ _ _ _ _ _ _ _ _ _ _ _ _
   | exact ih1 _ _ _ _ _ _ _ _ _ _ _ _ _ _ _ _ _
   | exact ih2 _ _ _ _ _ _ _ _ _ _ _ _ _ _ _
   | exact ih3 _ _ _ _
   | exact ih4 _ _ _
   | exact field_All.mono _ _ _ _ _ _ _ _ _ _ _ _ _
   | exact field_Frame.mono _ _
   | exact field_Right.mono _ _
   | exact magnetolaw04_awake.mono _
   | exact magnetolaw04_ints.mono _ _ _
   | exact LeO.none _
   | refine LeO.ite ?_ ?_
   | refine LeO.bind ?_ (fun _ => ?_)
  ·
   intro y0 y1 y2 y3
   unfold magnetolaw04_FieldBack.j3
   repeat' first
   | (with_reducible exact ih0 _ _ _ _ _ _ _ _ _ _ _ _ _ _ _ _ _)
   | (with_reducible exact ih1 _ _ _ _ _ _ _ _ _ _ _ _ _ _ _ _ _)
   | (with_reducible exact ih2 _ _ _ _ _ _ _ _ _ _ _ _ _ _ _)
   | (with_reducible exact ih3 _ _ _ _)
   | (with_reducible exact ih4 _ _ _)
   | (with_reducible exact field_All.mono _ _ _ _ _ _ _ _ _ _ _ _ _)
   | (with_reducible exact field_Frame.mono _ _)
   | (with_reducible exact field_Right.mono _ _)
   | (with_reducible exact magnetolaw04_awake.mono _)
   | (with_reducible exact magnetolaw04_ints.mono _ _ _)
   | (with_reducible exact LeO.refl _)
   | (with_reducible exact LeO.none _)
   | (with_reducible refine LeO.ite ?_ ?_)
   | (with_reducible refine LeO.bind ?_ (fun _ => ?_))
   | exact ih0 _ _ _ _ _ _ _ _ _ _ _ _ _ _ _ _ _
   | exact ih1 _ _ _ _ _ _ _ _ _ _ _ _ _ _ _ _ _
   | exact ih2 _ _ _ _ _ _ _ _ _ _ _ _ _ _ _
   | exact ih3 _ _ _ _
   | exact ih4 _ _ _
   | exact field_All.mono _ _ _ _ _ _ _ _ _ _ _ _ _
   | exact field_Frame.mono _ _
   | exact field_Right.mono _ _
   | exact magnetolaw04_awake.mono _
   | exact magnetolaw04_ints.mono _ _ _
   | exact LeO.none _
   | refine LeO.ite ?_ ?_
   | refine LeO.bind ?_ (fun _ => ?_)
  ·
   intro y0 y1 y2
   unfold magnetolaw04_FieldBack.j4
   repeat' first
   | (with_reducible exact ih0 _ _ _ _ _ _ _ _ _ _ _ _ _ _ _ _ _)
   | (with_reducible exact ih1 _ _ _ _ _ _ _ _ _ _ _ _ _ _ _ _ _)
   | (with_reducible exact ih2 _ _ _ _ _ _ _ _ _ _ _ _ _ _ _)
   | (with_reducible exact ih3 _ _ _ _)
   | (with_reducible exact ih4 _ _ _)
   | (with_reducible exact field_All.mono _ _ _ _ _ _ _ _ _ _ _ _ _)
   | (with_reducible exact field_Frame.mono _ _)
   | (with_reducible exact field_Right.mono _ _)
   | (with_reducible exact magnetolaw04_awake.mono _)
   | (with_reducible exact magnetolaw04_ints.mono _ _ _)
   | (with_reducible exact LeO.refl _)
   | (with_reducible exact LeO.none _)
   | (with_reducible refine LeO.ite ?_ ?_)
   | (with_reducible refine LeO.bind ?_ (fun _ => ?_))
   | exact ih0 _ _ _ _ _ _ _ _ _ _ _ _ _ _ _ _ _
   | exact ih1 _ _ _ _ _ _ _ _ _ _ _ _ _ _ _ _ _
   | exact ih2 _ _ _ _ _ _ _ _ _ _ _ _ _ _ _
   | exact ih3 _ _ _ _
   | exact ih4 _ _ _
   | exact field_All.mono _ _ _ _ _ _ _ _ _ _ _ _ _
   | exact field_Frame.mono _ _
   | exact field_Right.mono _ _
   | exact magnetolaw04_awake.mono _
   | exact magnetolaw04_ints.mono _ _ _
   | exact LeO.none _
   | refine LeO.ite ?_ ?_
   | refine LeO.bind ?_ (fun _ => ?_)
theorem magnetolaw04_FieldBack.mono : ∀ a0 a1 a2 a3 a4 a5 a6 a7 a8 a9 a10 a11 a12 a13 k, LeO (magnetolaw04_FieldBack.f k a0 a1 a2 a3 a4 a5 a6 a7 a8 a9 a10 a11 a12 a13) (magnetolaw04_FieldBack.f (k + 1) a0 a1 a2 a3 a4 a5 a6 a7 a8 a9 a10 a11 a12 a13) := by
 intro a0 a1 a2 a3 a4 a5 a6 a7 a8 a9 a10 a11 a12 a13 k
 obtain ⟨ih0, ih1, ih2, ih3, ih4⟩ := magnetolaw04_FieldBack.mono_l k
 unfold magnetolaw04_FieldBack.f
 repeat' first
   | (with_reducible exact ih0 _ _ _ _ _ _ _ _ _ _ _ _ _ _ _ _ _)
   | (with_reducible exact ih1 _ _ _ _ _ _ _ _ _ _ _ _ _ _ _ _ _)
   | (with_reducible exact ih2 _ _ _ _ _ _ _ _ _ _ _ _ _ _ _)
   | (with_reducible exact ih3 _ _ _ _)
   | (with_reducible exact ih4 _ _ _)
   | (with_reducible exact field_All.mono _ _ _ _ _ _ _ _ _ _ _ _ _)
   | (with_reducible exact field_Frame.mono _ _)
   | (with_reducible exact field_Right.mono _ _)
   | (with_reducible exact magnetolaw04_awake.mono _)
   | (with_reducible exact magnetolaw04_ints.mono _ _ _)
   | (with_reducible exact LeO.refl _)
   | (with_reducible exact LeO.none _)
   | (with_reducible refine LeO.ite ?_ ?_)
   | (with_reducible refine LeO.bind ?_ (fun _ => ?_))
   | exact ih0 _ _ _ _ _ _ _ _ _ _ _ _ _ _ _ _ _
   | exact ih1 _ _ _ _ _ _ _ _ _ _ _ _ _ _ _ _ _
   | exact ih2 _ _ _ _ _ _ _ _ _ _ _ _ _ _ _
   | exact ih3 _ _ _ _
   | exact ih4 _ _ _
   | exact field_All.mono _ _ _ _ _ _ _ _ _ _ _ _ _
   | exact field_Frame.mono _ _
   | exact field_Right.mono _ _
   | exact magnetolaw04_awake.mono _
   | exact magnetolaw04_ints.mono _ _ _
   | exact LeO.none _
   | refine LeO.ite ?_ ?_
   | refine LeO.bind ?_ (fun _ => ?_)
set_option maxHeartbeats 8000000 in
set_option maxRecDepth 100000 in
theorem magnetolaw04_FieldBack.calls (k : Nat) (a0_0 : Int) (a0_1 : Bool) (a0_2 : Bool) (a0_3 : Int) (a0_4 : Int) (a0_5 : Int) (a0_6 : Int) (a0_7 : Int) (a0_8 : Int) (a0_9 : Int) (a0_10 : Int) (a0_11 : Int) (a1 : Int) (a2 : Int) (r : Bool) (w : World) (h : magnetolaw04_FieldBack.f k a0_0 a0_1 a0_2 a0_3 a0_4 a0_5 a0_6 a0_7 a0_8 a0_9 a0_10 a0_11 a1 a2 = some r) :
  Calls Try.prog 8 #[.agg #[.int .i64 a0_0, .bool a0_1, .bool a0_2, .int .i64 a0_3, .int .u8 a0_4, .int .u8 a0_5, .int .u8 a0_6, .int .u8 a0_7, .int .u8 a0_8, .int .u8 a0_9, .int .u8 a0_10, .int .u8 a0_11], .int .i64 a1, .int .i64 a2] w fun e w' => e = .returned (.bool r) ∧ Below w.heap.size w w' := by
 have hu24 := Try.underlying24
 have HB := Aside0.mk (Below.refl w.heap.size w)
 have H : ((field_All.f k a0_0 a0_1 a0_2 a0_3 a0_4 a0_5 a0_6 a0_7 a0_8 a0_9 a0_10 a0_11).bind fun bt603 => ((field_Bits.f a0_0 a0_1 a0_2 a0_3 a0_4 a0_5 a0_6 a0_7 a0_8 a0_9 a0_10 a0_11).bind fun bt607 => (if bt603.2 = 0 then ((field_Ahead.f bt603.1).bind fun bt613 => ((field_Right.f k bt603.1).bind fun bt615 => (if bt607.2 = 0 then (if bt613.2 = 0 then (if bt613.1 = (bt607.1.length : Int) then (if bt615.2 = 0 then (if bt615.1 = true then (if (bt603.1.length : Int) = (wrap64 (bt613.1 + 25)) then (if 0 ≤ bt613.1 then (if bt613.1 ≤ (bt603.1.length : Int) then ((magnetolaw04_ints.f k (bt603.1.take (bt613.1 : Int).toNat) bt607.1).bind fun t621 => (magnetolaw04_FieldBack.j0 k a1 a2 bt603.1 bt613.1 (!t621) a0_0 a0_1 a0_2 a0_3 a0_4 a0_5 a0_6 a0_7 a0_8 a0_9 a0_10 a0_11)) else (none)) else (none)) else (none)) else (none)) else (none)) else (none)) else (none)) else (none)))) else (if (bt603.1.length : Int) = 0 then ((frame_Check.f a0_0 a0_1 a0_2 a0_3 a0_4 a0_5 a0_6 a0_7 a0_8 a0_9 a0_10 a0_11).bind fun t611 => (if t611 = bt603.2 then (if bt607.2 = bt603.2 then ((magnetolaw04_awake.f k).bind fun t612 => (some t612)) else (none)) else (none))) else (none))))) = some r := h
 clear h
 replace H := Option.bind_eq_some_iff.mp H
 obtain ⟨⟨t603, t606⟩, A40, H⟩ := H
 replace H : ((field_Bits.f a0_0 a0_1 a0_2 a0_3 a0_4 a0_5 a0_6 a0_7 a0_8 a0_9 a0_10 a0_11).bind fun bt607 => (if t606 = 0 then ((field_Ahead.f t603).bind fun bt613 => ((field_Right.f k t603).bind fun bt615 => (if bt607.2 = 0 then (if bt613.2 = 0 then (if bt613.1 = (bt607.1.length : Int) then (if bt615.2 = 0 then (if bt615.1 = true then (if (t603.length : Int) = (wrap64 (bt613.1 + 25)) then (if 0 ≤ bt613.1 then (if bt613.1 ≤ (t603.length : Int) then ((magnetolaw04_ints.f k (t603.take (bt613.1 : Int).toNat) bt607.1).bind fun t621 => (magnetolaw04_FieldBack.j0 k a1 a2 t603 bt613.1 (!t621) a0_0 a0_1 a0_2 a0_3 a0_4 a0_5 a0_6 a0_7 a0_8 a0_9 a0_10 a0_11)) else (none)) else (none)) else (none)) else (none)) else (none)) else (none)) else (none)) else (none)))) else (if (t603.length : Int) = 0 then ((frame_Check.f a0_0 a0_1 a0_2 a0_3 a0_4 a0_5 a0_6 a0_7 a0_8 a0_9 a0_10 a0_11).bind fun t611 => (if t611 = t606 then (if bt607.2 = t606 then ((magnetolaw04_awake.f k).bind fun t612 => (some t612)) else (none)) else (none))) else (none)))) = some r := H
 have A4 := Aside0.mk A40
 clear A40
 replace H := Option.bind_eq_some_iff.mp H
 obtain ⟨⟨t607, t610⟩, A50, H⟩ := H
 replace H : (if t606 = 0 then ((field_Ahead.f t603).bind fun bt613 => ((field_Right.f k t603).bind fun bt615 => (if t610 = 0 then (if bt613.2 = 0 then (if bt613.1 = (t607.length : Int) then (if bt615.2 = 0 then (if bt615.1 = true then (if (t603.length : Int) = (wrap64 (bt613.1 + 25)) then (if 0 ≤ bt613.1 then (if bt613.1 ≤ (t603.length : Int) then ((magnetolaw04_ints.f k (t603.take (bt613.1 : Int).toNat) t607).bind fun t621 => (magnetolaw04_FieldBack.j0 k a1 a2 t603 bt613.1 (!t621) a0_0 a0_1 a0_2 a0_3 a0_4 a0_5 a0_6 a0_7 a0_8 a0_9 a0_10 a0_11)) else (none)) else (none)) else (none)) else (none)) else (none)) else (none)) else (none)) else (none)))) else (if (t603.length : Int) = 0 then ((frame_Check.f a0_0 a0_1 a0_2 a0_3 a0_4 a0_5 a0_6 a0_7 a0_8 a0_9 a0_10 a0_11).bind fun t611 => (if t611 = t606 then (if t610 = t606 then ((magnetolaw04_awake.f k).bind fun t612 => (some t612)) else (none)) else (none))) else (none))) = some r := H
 have A5 := Aside0.mk A50
 clear A50
 by_cases c6 : t606 = 0
 ·
  rw [if_pos c6] at H
  have c6b0 : (t606 == 0) = true := beq_iff_eq.mpr c6
  have c6b1 : (t606 != 0) = false := bne_eq_false_iff_eq.mpr c6
  clear c6
  replace H := Option.bind_eq_some_iff.mp H
  obtain ⟨⟨t613, t614⟩, A70, H⟩ := H
  replace H : ((field_Right.f k t603).bind fun bt615 => (if t610 = 0 then (if t614 = 0 then (if t613 = (t607.length : Int) then (if bt615.2 = 0 then (if bt615.1 = true then (if (t603.length : Int) = (wrap64 (t613 + 25)) then (if 0 ≤ t613 then (if t613 ≤ (t603.length : Int) then ((magnetolaw04_ints.f k (t603.take (t613 : Int).toNat) t607).bind fun t621 => (magnetolaw04_FieldBack.j0 k a1 a2 t603 t613 (!t621) a0_0 a0_1 a0_2 a0_3 a0_4 a0_5 a0_6 a0_7 a0_8 a0_9 a0_10 a0_11)) else (none)) else (none)) else (none)) else (none)) else (none)) else (none)) else (none)) else (none))) = some r := H
  have A7 := Aside0.mk A70
  clear A70
  replace H := Option.bind_eq_some_iff.mp H
  obtain ⟨⟨t615, t616⟩, A80, H⟩ := H
  replace H : (if t610 = 0 then (if t614 = 0 then (if t613 = (t607.length : Int) then (if t616 = 0 then (if t615 = true then (if (t603.length : Int) = (wrap64 (t613 + 25)) then (if 0 ≤ t613 then (if t613 ≤ (t603.length : Int) then ((magnetolaw04_ints.f k (t603.take (t613 : Int).toNat) t607).bind fun t621 => (magnetolaw04_FieldBack.j0 k a1 a2 t603 t613 (!t621) a0_0 a0_1 a0_2 a0_3 a0_4 a0_5 a0_6 a0_7 a0_8 a0_9 a0_10 a0_11)) else (none)) else (none)) else (none)) else (none)) else (none)) else (none)) else (none)) else (none)) = some r := H
  have A8 := Aside0.mk A80
  clear A80
  have HC9 := Aside0.mk H
  clear H
  go_enter Try.func8, Try.ntmps8
  go_upto_region 7 with (first | ((with_reducible refine gate_dst (N := 3) rfl ?_); (try (refine gate_guard (by rfl) ?_; dsimp only)); refine box_event ?hg (N := 3) ?hd (cs := #[.int .i64 a0_0, .bool a0_1, .bool a0_2, .int .i64 a0_3, .int .u8 a0_4, .int .u8 a0_5, .int .u8 a0_6, .int .u8 a0_7, .int .u8 a0_8, .int .u8 a0_9, .int .u8 a0_10, .int .u8 a0_11]) (t := 24) ?hr ?_; (case hd => rfl); (case hg => rfl); (case hr => first | (go_simp; done) | (go_simp; rfl)); intro gb602 hg w10 hbox hb; have n0_ := Aside0.mk (below_step (by repeat (first | (with_reducible first | exact HB.out | apply below_alloc | apply pw_below_drewN | apply below_drew1) | exact HB.out)) hb); have n1_ := Aside0.mk (hbox); have n2_ := Aside0.mk ((by rw [hg]; exact (below_size (by repeat (first | (with_reducible first | exact HB.out | apply below_alloc | apply pw_below_drewN | apply below_drew1) | exact HB.out))) : w.heap.size ≤ gb602)); have n3_ := Aside0.mk ((by rw [hg]; exact (below_size (by repeat (first | (with_reducible first | exact HB.out | apply below_alloc | apply pw_below_drewN | apply below_drew1) | exact HB.out))) : w.heap.size ≤ gb602)); clear HB; have HB := n0_; have BK602 := n1_; have GW602 := n2_; have GE602 := n3_; clear n0_ n1_ n2_ n3_; clear hb hbox hg; have hcz11_0 : w10.cell? ⟨gb602, 0, none⟩ = some (.int .i64 a0_0) := (blk_cell BK602.out 0).trans rfl; have hcz11_1 : w10.cell? ⟨gb602, 1, none⟩ = some (.bool a0_1) := (blk_cell BK602.out 1).trans rfl; have hcz11_2 : w10.cell? ⟨gb602, 2, none⟩ = some (.bool a0_2) := (blk_cell BK602.out 2).trans rfl; have hcz11_3 : w10.cell? ⟨gb602, 3, none⟩ = some (.int .i64 a0_3) := (blk_cell BK602.out 3).trans rfl; have hcz11_4 : w10.cell? ⟨gb602, 4, none⟩ = some (.int .u8 a0_4) := (blk_cell BK602.out 4).trans rfl; have hcz11_5 : w10.cell? ⟨gb602, 5, none⟩ = some (.int .u8 a0_5) := (blk_cell BK602.out 5).trans rfl; have hcz11_6 : w10.cell? ⟨gb602, 6, none⟩ = some (.int .u8 a0_6) := (blk_cell BK602.out 6).trans rfl; have hcz11_7 : w10.cell? ⟨gb602, 7, none⟩ = some (.int .u8 a0_7) := (blk_cell BK602.out 7).trans rfl; have hcz11_8 : w10.cell? ⟨gb602, 8, none⟩ = some (.int .u8 a0_8) := (blk_cell BK602.out 8).trans rfl; have hcz11_9 : w10.cell? ⟨gb602, 9, none⟩ = some (.int .u8 a0_9) := (blk_cell BK602.out 9).trans rfl; have hcz11_10 : w10.cell? ⟨gb602, 10, none⟩ = some (.int .u8 a0_10) := (blk_cell BK602.out 10).trans rfl; have hcz11_11 : w10.cell? ⟨gb602, 11, none⟩ = some (.int .u8 a0_11) := (blk_cell BK602.out 11).trans rfl; have hfz11_0 := blk_frozen BK602.out 0; have hfz11_1 := blk_frozen BK602.out 1; have hfz11_2 := blk_frozen BK602.out 2; have hfz11_3 := blk_frozen BK602.out 3; have hfz11_4 := blk_frozen BK602.out 4; have hfz11_5 := blk_frozen BK602.out 5; have hfz11_6 := blk_frozen BK602.out 6; have hfz11_7 := blk_frozen BK602.out 7; have hfz11_8 := blk_frozen BK602.out 8; have hfz11_9 := blk_frozen BK602.out 9; have hfz11_10 := blk_frozen BK602.out 10; have hfz11_11 := blk_frozen BK602.out 11) | ((with_reducible refine gate_callee (f := 17) rfl ?_); refine goesL_ (some 24) rfl rfl Try.func17 (by kernel_rfl) rfl #[.agg #[.int .i64 a0_0, .bool a0_1, .bool a0_2, .int .i64 a0_3, .int .u8 a0_4, .int .u8 a0_5, .int .u8 a0_6, .int .u8 a0_7, .int .u8 a0_8, .int .u8 a0_9, .int .u8 a0_10, .int .u8 a0_11]] rfl (by (try simp only [List.map_toArray, List.map_cons, List.map_nil]); first | done | rfl | (simp only [List.length_drop, List.length_take]; rfl)) ?_; (with_reducible refine (field_All.calls k a0_0 a0_1 a0_2 a0_3 a0_4 a0_5 a0_6 a0_7 a0_8 a0_9 a0_10 a0_11 t603 t606 _ A4.out).mono ?_); rintro e w12 ⟨v604, rfl, ho0, hb⟩; refine ⟨_, rfl, ?_⟩; have n0_ := Aside0.mk (Kd.R_lower ho0 (below_size (by repeat (first | (with_reducible first | exact HB.out | apply below_alloc | apply pw_below_drewN | apply below_drew1 | refine below_set ?_ GE602.out) | exact HB.out)))); have n1_ := Aside0.mk (blk_below (g := gb602) (o := .cells #[.int .i64 a0_0, .bool a0_1, .bool a0_2, .int .i64 a0_3, .int .u8 a0_4, .int .u8 a0_5, .int .u8 a0_6, .int .u8 a0_7, .int .u8 a0_8, .int .u8 a0_9, .int .u8 a0_10, .int .u8 a0_11] 24 (0, 0)) (by (with_reducible repeat (first | refine blk_drewN ?_ _ | refine blk_drew ?_ | refine blk_alloc ?_ _)); exact BK602.out) hb); have n2_ := Aside0.mk (below_step (by repeat (first | (with_reducible first | exact HB.out | apply below_alloc | apply pw_below_drewN | apply below_drew1 | refine below_set ?_ GE602.out) | exact HB.out)) hb); clear BK602; clear HB; have HO605 := n0_; have BK602 := n1_; have HB := n2_; clear n0_ n1_ n2_; (try clear hb); (try clear hb2); (try clear hk); (try clear hi); (try clear ho0); have hcz13_0 : w12.cell? ⟨gb602, 0, none⟩ = some (.int .i64 a0_0) := (blk_cell BK602.out 0).trans rfl; have hcz13_1 : w12.cell? ⟨gb602, 1, none⟩ = some (.bool a0_1) := (blk_cell BK602.out 1).trans rfl; have hcz13_2 : w12.cell? ⟨gb602, 2, none⟩ = some (.bool a0_2) := (blk_cell BK602.out 2).trans rfl; have hcz13_3 : w12.cell? ⟨gb602, 3, none⟩ = some (.int .i64 a0_3) := (blk_cell BK602.out 3).trans rfl; have hcz13_4 : w12.cell? ⟨gb602, 4, none⟩ = some (.int .u8 a0_4) := (blk_cell BK602.out 4).trans rfl; have hcz13_5 : w12.cell? ⟨gb602, 5, none⟩ = some (.int .u8 a0_5) := (blk_cell BK602.out 5).trans rfl; have hcz13_6 : w12.cell? ⟨gb602, 6, none⟩ = some (.int .u8 a0_6) := (blk_cell BK602.out 6).trans rfl; have hcz13_7 : w12.cell? ⟨gb602, 7, none⟩ = some (.int .u8 a0_7) := (blk_cell BK602.out 7).trans rfl; have hcz13_8 : w12.cell? ⟨gb602, 8, none⟩ = some (.int .u8 a0_8) := (blk_cell BK602.out 8).trans rfl; have hcz13_9 : w12.cell? ⟨gb602, 9, none⟩ = some (.int .u8 a0_9) := (blk_cell BK602.out 9).trans rfl; have hcz13_10 : w12.cell? ⟨gb602, 10, none⟩ = some (.int .u8 a0_10) := (blk_cell BK602.out 10).trans rfl; have hcz13_11 : w12.cell? ⟨gb602, 11, none⟩ = some (.int .u8 a0_11) := (blk_cell BK602.out 11).trans rfl; have hfz13_0 := blk_frozen BK602.out 0; have hfz13_1 := blk_frozen BK602.out 1; have hfz13_2 := blk_frozen BK602.out 2; have hfz13_3 := blk_frozen BK602.out 3; have hfz13_4 := blk_frozen BK602.out 4; have hfz13_5 := blk_frozen BK602.out 5; have hfz13_6 := blk_frozen BK602.out 6; have hfz13_7 := blk_frozen BK602.out 7; have hfz13_8 := blk_frozen BK602.out 8; have hfz13_9 := blk_frozen BK602.out 9; have hfz13_10 := blk_frozen BK602.out 10; have hfz13_11 := blk_frozen BK602.out 11) | ((with_reducible refine gate_callee (f := 16) rfl ?_); refine goesL_ (some 29) rfl rfl Try.func16 (by kernel_rfl) rfl #[.agg #[.int .i64 a0_0, .bool a0_1, .bool a0_2, .int .i64 a0_3, .int .u8 a0_4, .int .u8 a0_5, .int .u8 a0_6, .int .u8 a0_7, .int .u8 a0_8, .int .u8 a0_9, .int .u8 a0_10, .int .u8 a0_11]] rfl (by (try simp only [List.map_toArray, List.map_cons, List.map_nil]); first | done | rfl | (simp only [List.length_drop, List.length_take]; rfl)) ?_; (with_reducible refine (field_Bits.calls a0_0 a0_1 a0_2 a0_3 a0_4 a0_5 a0_6 a0_7 a0_8 a0_9 a0_10 a0_11 t607 t610 _ A5.out).mono ?_); rintro e w14 ⟨v608, rfl, ho0, hb⟩; refine ⟨_, rfl, ?_⟩; have n0_ := Aside0.mk (Kd.R_elder' (by (with_reducible repeat (first | apply Kd.R_alloc | apply Kd.R_drewN | apply Kd.R_drew)); exact HO605.out) (Kd.R_base ho0) hb); have n1_ := Aside0.mk (Kd.R_lower (Kd.R_new' ho0 (Kd.R_lt (by (with_reducible repeat (first | apply Kd.R_alloc | apply Kd.R_drewN | apply Kd.R_drew)); exact HO605.out))) (below_size (by repeat (first | (with_reducible first | exact HB.out | apply below_alloc | apply pw_below_drewN | apply below_drew1 | refine below_set ?_ GE602.out) | exact HB.out)))); have n2_ := Aside0.mk (blk_below (g := gb602) (o := .cells #[.int .i64 a0_0, .bool a0_1, .bool a0_2, .int .i64 a0_3, .int .u8 a0_4, .int .u8 a0_5, .int .u8 a0_6, .int .u8 a0_7, .int .u8 a0_8, .int .u8 a0_9, .int .u8 a0_10, .int .u8 a0_11] 24 (0, 0)) (by (with_reducible repeat (first | refine blk_drewN ?_ _ | refine blk_drew ?_ | refine blk_alloc ?_ _)); exact BK602.out) hb); have n3_ := Aside0.mk (below_step (by repeat (first | (with_reducible first | exact HB.out | apply below_alloc | apply pw_below_drewN | apply below_drew1 | refine below_set ?_ GE602.out) | exact HB.out)) hb); clear HO605; clear BK602; clear HB; have HO605 := n0_; have HO609 := n1_; have BK602 := n2_; have HB := n3_; clear n0_ n1_ n2_ n3_; (try clear hb); (try clear hb2); (try clear hk); (try clear hi); (try clear ho0); obtain ⟨Ao15, co15, eo15⟩ := Kd.R_slice HO605.out; subst eo15) | ((with_reducible refine gate_callee (f := 24) rfl ?_); refine goesL_ (some 53) rfl rfl Try.func24 (by kernel_rfl) rfl #[.slice Ao15 t603.length co15] rfl (by (try simp only [List.map_toArray, List.map_cons, List.map_nil]); first | done | rfl | (simp only [List.length_drop, List.length_take]; rfl)) ?_; (with_reducible refine (field_Ahead.calls _ _ t603 t613 t614 _ ?side1 ?side2 A7.out).mono ?_); (case side1 => repeat (first | exact (Kd.R_reads' HO605.out).2.2 | (with_reducible refine Kd.C_alloc ?_ _) | (with_reducible refine Kd.C_drewN ?_ _) | (with_reducible refine Kd.C_drew ?_))); (case side2 => exact (Kd.R_reads' HO605.out).2.1); rintro e w16 ⟨rfl, hb⟩; refine ⟨_, rfl, ?_⟩; have n0_ := Aside0.mk (Kd.R_below (by (with_reducible repeat (first | apply Kd.R_alloc | apply Kd.R_drewN | apply Kd.R_drew)); exact HO605.out) hb); have n1_ := Aside0.mk (Kd.R_below (by (with_reducible repeat (first | apply Kd.R_alloc | apply Kd.R_drewN | apply Kd.R_drew)); exact HO609.out) hb); have n2_ := Aside0.mk (blk_below (g := gb602) (o := .cells #[.int .i64 a0_0, .bool a0_1, .bool a0_2, .int .i64 a0_3, .int .u8 a0_4, .int .u8 a0_5, .int .u8 a0_6, .int .u8 a0_7, .int .u8 a0_8, .int .u8 a0_9, .int .u8 a0_10, .int .u8 a0_11] 24 (0, 0)) (by (with_reducible repeat (first | refine blk_drewN ?_ _ | refine blk_drew ?_ | refine blk_alloc ?_ _)); exact BK602.out) hb); have n3_ := Aside0.mk (below_step (by repeat (first | (with_reducible first | exact HB.out | apply below_alloc | apply pw_below_drewN | apply below_drew1 | refine below_set ?_ GE602.out) | exact HB.out)) hb); clear HO605; clear HO609; clear BK602; clear HB; have HO605 := n0_; have HO609 := n1_; have BK602 := n2_; have HB := n3_; clear n0_ n1_ n2_ n3_; (try clear hb); (try clear hb2); (try clear hk); (try clear hi)) | ((with_reducible refine gate_callee (f := 30) rfl ?_); refine goesL_ (some 58) rfl rfl Try.func30 (by kernel_rfl) rfl #[.slice Ao15 t603.length co15] rfl (by (try simp only [List.map_toArray, List.map_cons, List.map_nil]); first | done | rfl | (simp only [List.length_drop, List.length_take]; rfl)) ?_; (with_reducible refine (field_Right.calls k _ _ t603 t615 t616 _ ?side1 ?side2 A8.out).mono ?_); (case side1 => repeat (first | exact (Kd.R_reads' HO605.out).2.2 | (with_reducible refine Kd.C_alloc ?_ _) | (with_reducible refine Kd.C_drewN ?_ _) | (with_reducible refine Kd.C_drew ?_))); (case side2 => exact (Kd.R_reads' HO605.out).2.1); rintro e w17 ⟨rfl, hb⟩; refine ⟨_, rfl, ?_⟩; have n0_ := Aside0.mk (Kd.R_below (by (with_reducible repeat (first | apply Kd.R_alloc | apply Kd.R_drewN | apply Kd.R_drew)); exact HO605.out) hb); have n1_ := Aside0.mk (Kd.R_below (by (with_reducible repeat (first | apply Kd.R_alloc | apply Kd.R_drewN | apply Kd.R_drew)); exact HO609.out) hb); have n2_ := Aside0.mk (blk_below (g := gb602) (o := .cells #[.int .i64 a0_0, .bool a0_1, .bool a0_2, .int .i64 a0_3, .int .u8 a0_4, .int .u8 a0_5, .int .u8 a0_6, .int .u8 a0_7, .int .u8 a0_8, .int .u8 a0_9, .int .u8 a0_10, .int .u8 a0_11] 24 (0, 0)) (by (with_reducible repeat (first | refine blk_drewN ?_ _ | refine blk_drew ?_ | refine blk_alloc ?_ _)); exact BK602.out) hb); have n3_ := Aside0.mk (below_step (by repeat (first | (with_reducible first | exact HB.out | apply below_alloc | apply pw_below_drewN | apply below_drew1 | refine below_set ?_ GE602.out) | exact HB.out)) hb); clear HO605; clear HO609; clear BK602; clear HB; have HO605 := n0_; have HO609 := n1_; have BK602 := n2_; have HB := n3_; clear n0_ n1_ n2_ n3_; (try clear hb); (try clear hb2); (try clear hk); (try clear hi)))
  (try simp only [Act.put, List.setIfInBounds_toArray, List.set_cons_zero, List.set_cons_succ])
  go_cut [95] (fun v95 wc => ∃ (kq : Nat) (x95_8 : Bool), v95 = .bool x95_8 ∧ Aside0 (magnetolaw04_FieldBack.j0 kq a1 a2 t603 t613 x95_8 a0_0 a0_1 a0_2 a0_3 a0_4 a0_5 a0_6 a0_7 a0_8 a0_9 a0_10 a0_11 = some r) ∧ Aside0 (kq ≤ k) ∧ Aside0 (Kd.R (Kd.int .i64) 3 wc w.heap.size (fun _ => True) (.slice Ao15 t603.length co15) t603) ∧ Aside0 (wc.heap[gb602]? = some (.cells #[.int .i64 a0_0, .bool a0_1, .bool a0_2, .int .i64 a0_3, .int .u8 a0_4, .int .u8 a0_5, .int .u8 a0_6, .int .u8 a0_7, .int .u8 a0_8, .int .u8 a0_9, .int .u8 a0_10, .int .u8 a0_11] 24 (0, 0))) ∧ Aside0 (Below w.heap.size w wc))
  case first =>
   have H := HC9.out
   clear HC9
   by_cases c18 : t610 = 0
   ·
    rw [if_pos c18] at H
    have c18b0 : (t610 == 0) = true := beq_iff_eq.mpr c18
    have c18b1 : (t610 != 0) = false := bne_eq_false_iff_eq.mpr c18
    clear c18
    (first | rw [c18b0] | (simp only [i64_w, i32_w]; rw [c18b0]) | skip)
    by_cases c19 : t614 = 0
    ·
     rw [if_pos c19] at H
     have c19b0 : (t614 == 0) = true := beq_iff_eq.mpr c19
     have c19b1 : (t614 != 0) = false := bne_eq_false_iff_eq.mpr c19
     clear c19
     by_cases c20 : t613 = (t607.length : Int)
     ·
      rw [if_pos c20] at H
      have c20b0 : (t613 == (t607.length : Int)) = true := beq_iff_eq.mpr c20
      have c20b1 : (t613 != (t607.length : Int)) = false := bne_eq_false_iff_eq.mpr c20
      clear c20
      by_cases c21 : t616 = 0
      ·
       rw [if_pos c21] at H
       have c21b0 : (t616 == 0) = true := beq_iff_eq.mpr c21
       have c21b1 : (t616 != 0) = false := bne_eq_false_iff_eq.mpr c21
       clear c21
       by_cases c22 : t615 = true
       ·
        subst c22
        have H1 : (if (t603.length : Int) = (wrap64 (t613 + 25)) then (if 0 ≤ t613 then (if t613 ≤ (t603.length : Int) then ((magnetolaw04_ints.f k (t603.take (t613 : Int).toNat) t607).bind fun t621 => (magnetolaw04_FieldBack.j0 k a1 a2 t603 t613 (!t621) a0_0 a0_1 a0_2 a0_3 a0_4 a0_5 a0_6 a0_7 a0_8 a0_9 a0_10 a0_11)) else (none)) else (none)) else (none)) = some r := by rw [if_pos rfl] at H; exact H
        clear H
        have H := H1
        clear H1
        by_cases c23 : (t603.length : Int) = (wrap64 (t613 + 25))
        ·
         rw [if_pos c23] at H
         have c23b0 : ((t603.length : Int) == (wrap64 (t613 + 25))) = true := beq_iff_eq.mpr c23
         have c23b1 : ((t603.length : Int) != (wrap64 (t613 + 25))) = false := bne_eq_false_iff_eq.mpr c23
         clear c23
         by_cases c24 : 0 ≤ t613
         ·
          rw [if_pos c24] at H
          have c24b0 := eq_true c24
          have c24b1 : decide (0 ≤ t613) = true := decide_eq_true c24
          clear c24
          by_cases c25 : t613 ≤ (t603.length : Int)
          ·
           rw [if_pos c25] at H
           have c25b0 := eq_true c25
           have c25b1 : decide (t613 ≤ (t603.length : Int)) = true := decide_eq_true c25
           clear c25
           obtain ⟨y617, hy617⟩ : ∃ y_ : List Int, y_ = (t603.take (t613 : Int).toNat) := ⟨_, rfl⟩
           replace H : ((magnetolaw04_ints.f k y617 t607).bind fun t621 => (magnetolaw04_FieldBack.j0 k a1 a2 t603 t613 (!t621) a0_0 a0_1 a0_2 a0_3 a0_4 a0_5 a0_6 a0_7 a0_8 a0_9 a0_10 a0_11)) = some r := by first | (rw [hy617]; with_reducible exact H) | (have H2_ := (Option.bind_some _ _).symm.trans H; rw [hy617]; with_reducible exact H2_) | (have H2_ := (Option.bind_some _ _).symm.trans H; with_reducible exact H2_) | with_reducible exact H | (rw [hy617]; exact H) | exact H
           have Ny617 := Aside0.mk hy617
           clear hy617
           replace H := Option.bind_eq_some_iff.mp H
           obtain ⟨t621, A260, H⟩ := H
           replace H : (magnetolaw04_FieldBack.j0 k a1 a2 t603 t613 (!t621) a0_0 a0_1 a0_2 a0_3 a0_4 a0_5 a0_6 a0_7 a0_8 a0_9 a0_10 a0_11) = some r := H
           have A26 := Aside0.mk A260
           clear A260
           have H' := Aside0.mk H
           clear H
           obtain ⟨Ao27, co27, eo27⟩ := Kd.R_slice HO609.out
           subst eo27
           have q28 : (t613 : Int) ≤ ((t603.length : Int) : Int) := of_decide_eq_true (by first | (with_reducible assumption) | assumption)
           obtain ⟨i028, hi028, _, hsz28, _⟩ := info_parts info3
           have hroom28 : t603.length ≤ co15 := (Kd.R_reads' HO605.out).2.1
           have hC28 : Kd.C (Kd.int .i64) _ Ao15 t603.length t603 := (Kd.R_reads' HO605.out).2.2
           have hcut28 := cut_to (P := Try.prog) 25 3 .i64 Try.underlying25 hi028 Ao15 t603.length co15 t613 (of_decide_eq_true (by first | (with_reducible assumption) | assumption)) q28 hroom28
           have hr28 := Kd.C_take (m := (t613 : Int).toNat) hC28 (by omega)
           have hy28 : y617.length = (t613 : Int).toNat := (by rw [Ny617.out, List.length_take]; omega)
           rw [← Ny617.out] at hr28
           rw [← hy28] at hcut28
           have HR620 := Aside0.mk hr28
           have HC620 := Aside0.mk (show y617.length ≤ co15 from by omega)
           clear hr28 hC28 hroom28 hi028 hsz28
           have KY28 := Aside0.mk hy28
           clear hy28
           have KL28 := Aside0.mk (show (t613 : Int).toNat ≤ t603.length from by omega)
           replace q28 := eq_true q28
           go_wp2_with (first | (go_at_call 20; (with_reducible refine (magnetolaw04_ints.calls k _ _ y617 _ _ t607 t621 _ ?side1 ?side2 ?side3 ?side4 A26.out).mono ?_); (case side1 => repeat (first | exact (by repeat (first | (with_reducible exact HR620.out) | (with_reducible refine Kd.C_alloc ?_ _) | (with_reducible refine Kd.C_drewN ?_ _) | (with_reducible refine Kd.C_drew ?_) | exact HR620.out)) | (with_reducible refine Kd.C_alloc ?_ _) | (with_reducible refine Kd.C_drewN ?_ _) | (with_reducible refine Kd.C_drew ?_))); (case side2 => exact HC620.out); (case side3 => repeat (first | exact (Kd.R_reads' HO609.out).2.2 | (with_reducible refine Kd.C_alloc ?_ _) | (with_reducible refine Kd.C_drewN ?_ _) | (with_reducible refine Kd.C_drew ?_))); (case side4 => exact (Kd.R_reads' HO609.out).2.1); rintro e w' ⟨rfl, ⟨nd, rfl⟩⟩))
           go_meet
           case rel => exact ⟨_, (!t621), (by first | rfl | (simp; done) | (simp [*]; done)), H', ⟨by first | omega | exact Nat.le_refl _⟩, ⟨by (with_reducible repeat (first | apply Kd.R_alloc | apply Kd.R_drewN | apply Kd.R_drew)); exact Kd.R_mono HO605.out (fun _ hk => trivial)⟩, ⟨by (with_reducible repeat (first | refine blk_drewN ?_ _ | refine blk_drew ?_ | refine blk_alloc ?_ _)); exact BK602.out⟩, ⟨by repeat (first | (with_reducible first | exact HB.out | apply below_alloc | apply pw_below_drewN | apply below_drew1 | refine below_set ?_ GE602.out) | exact HB.out)⟩⟩
          ·
           rw [if_neg c25] at H
           exact absurd H (by simp)
         ·
          rw [if_neg c24] at H
          exact absurd H (by simp)
        ·
         rw [if_neg c23] at H
         exact absurd H (by simp)
       ·
        replace c22 := Bool.eq_false_iff.mpr c22
        subst c22
        have H1 : (none) = some r := by rw [if_neg (show ¬ (false = true) by decide)] at H; exact H
        clear H
        have H := H1
        clear H1
        exact absurd H (by simp)
      ·
       rw [if_neg c21] at H
       exact absurd H (by simp)
     ·
      rw [if_neg c20] at H
      exact absurd H (by simp)
    ·
     rw [if_neg c19] at H
     exact absurd H (by simp)
   ·
    rw [if_neg c18] at H
    exact absurd H (by simp)
  case rest =>
   clear HC9
   try clear c1
   try clear c2
   try clear p2
   try clear q2
   try clear c3
   try clear c6
   try clear c6b0
   try clear c6b1
   try clear p6
   try clear c8
   try clear c16
   try clear c17
   try clear c18
   try clear c18b0
   try clear c18b1
   try clear c19
   try clear c19b0
   try clear c19b1
   try clear c20
   try clear c20b0
   try clear c20b1
   try clear c21
   try clear c21b0
   try clear c21b1
   try clear c22
   try clear c23
   try clear c23b0
   try clear c23b1
   try clear c24
   try clear c24b0
   try clear c24b1
   try clear c25
   try clear c25b0
   try clear c25b1
   try clear q28
   try clear hcz11_0
   try clear hcz11_1
   try clear hcz11_10
   try clear hcz11_11
   try clear hcz11_2
   try clear hcz11_3
   try clear hcz11_4
   try clear hcz11_5
   try clear hcz11_6
   try clear hcz11_7
   try clear hcz11_8
   try clear hcz11_9
   try clear hcz13_0
   try clear hcz13_1
   try clear hcz13_10
   try clear hcz13_11
   try clear hcz13_2
   try clear hcz13_3
   try clear hcz13_4
   try clear hcz13_5
   try clear hcz13_6
   try clear hcz13_7
   try clear hcz13_8
   try clear hcz13_9
   try clear hfz11_0
   try clear hfz11_1
   try clear hfz11_10
   try clear hfz11_11
   try clear hfz11_2
   try clear hfz11_3
   try clear hfz11_4
   try clear hfz11_5
   try clear hfz11_6
   try clear hfz11_7
   try clear hfz11_8
   try clear hfz11_9
   try clear hfz13_0
   try clear hfz13_1
   try clear hfz13_10
   try clear hfz13_11
   try clear hfz13_2
   try clear hfz13_3
   try clear hfz13_4
   try clear hfz13_5
   try clear hfz13_6
   try clear hfz13_7
   try clear hfz13_8
   try clear hfz13_9
   try clear q28
   obtain ⟨kq, x95_8, rfl, HA, HJ8, HO_7, BK602, HB⟩ := hcut
   cases kq with
   | zero => exact absurd HA.out (by simp [magnetolaw04_FieldBack.j0])
   | succ kj8 =>
    have H := HA.out
    clear HA
    simp only [magnetolaw04_FieldBack.j0] at H
    by_cases c29 : x95_8 = true
    ·
     subst c29
     have H1 : (none) = some r := by rw [if_pos rfl] at H; exact H
     clear H
     have H := H1
     clear H1
     exact absurd H (by simp)
    ·
     replace c29 := Bool.eq_false_iff.mpr c29
     subst c29
     have H1 : (if a1 ≥ 0 then (magnetolaw04_FieldBack.j1 kj8 a1 a2 t603 t613 (decide (a1 ≤ (t603.length : Int))) a0_0 a0_1 a0_2 a0_3 a0_4 a0_5 a0_6 a0_7 a0_8 a0_9 a0_10 a0_11) else (magnetolaw04_FieldBack.j1 kj8 a1 a2 t603 t613 false a0_0 a0_1 a0_2 a0_3 a0_4 a0_5 a0_6 a0_7 a0_8 a0_9 a0_10 a0_11)) = some r := by rw [if_neg (show ¬ (false = true) by decide)] at H; exact H
     clear H
     have H := H1
     clear H1
     have HC30 := Aside0.mk H
     clear H
     go_upto_region 9 with (fail)
     go_cut [103] (fun v103 wc => ∃ (kq : Nat) (x103_29 : Bool), v103 = .bool x103_29 ∧ Aside0 (magnetolaw04_FieldBack.j1 kq a1 a2 t603 t613 x103_29 a0_0 a0_1 a0_2 a0_3 a0_4 a0_5 a0_6 a0_7 a0_8 a0_9 a0_10 a0_11 = some r) ∧ Aside0 (kq ≤ kj8) ∧ Aside0 (Kd.R (Kd.int .i64) 3 wc w.heap.size (fun _ => True) (.slice Ao15 t603.length co15) t603) ∧ Aside0 (wc.heap[gb602]? = some (.cells #[.int .i64 a0_0, .bool a0_1, .bool a0_2, .int .i64 a0_3, .int .u8 a0_4, .int .u8 a0_5, .int .u8 a0_6, .int .u8 a0_7, .int .u8 a0_8, .int .u8 a0_9, .int .u8 a0_10, .int .u8 a0_11] 24 (0, 0))) ∧ Aside0 (Below w.heap.size w wc))
     case first =>
      have H := HC30.out
      clear HC30
      by_cases c31 : a1 ≥ 0
      ·
       rw [if_pos c31] at H
       have c31b0 : decide (0 ≤ a1) = true := decide_eq_true c31
       clear c31
       (first | rw [c31b0] | (simp only [i64_w, i32_w]; rw [c31b0]) | skip)
       have H' := Aside0.mk H
       clear H
       go_wp2
       go_meet
       case rel => exact ⟨_, (decide (a1 ≤ (t603.length : Int))), (by first | rfl | (simp; done) | (simp [*]; done)), H', ⟨by have := HJ8.out; first | omega | exact Nat.le_refl _⟩, ⟨by (with_reducible repeat (first | apply Kd.R_alloc | apply Kd.R_drewN | apply Kd.R_drew)); exact HO_7.out⟩, ⟨by (with_reducible repeat (first | refine blk_drewN ?_ _ | refine blk_drew ?_ | refine blk_alloc ?_ _)); exact BK602.out⟩, ⟨by repeat (first | (with_reducible first | exact HB.out | apply below_alloc | apply pw_below_drewN | apply below_drew1 | refine below_set ?_ GE602.out) | exact HB.out)⟩⟩
      ·
       rw [if_neg c31] at H
       have c31b0 : decide (0 ≤ a1) = false := decide_eq_false c31
       clear c31
       (first | rw [c31b0] | (simp only [i64_w, i32_w]; rw [c31b0]) | skip)
       have H' := Aside0.mk H
       clear H
       go_wp2
       go_meet
       case rel => exact ⟨_, (false), (by first | rfl | (simp; done) | (simp [*]; done)), H', ⟨by have := HJ8.out; first | omega | exact Nat.le_refl _⟩, ⟨by (with_reducible repeat (first | apply Kd.R_alloc | apply Kd.R_drewN | apply Kd.R_drew)); exact HO_7.out⟩, ⟨by (with_reducible repeat (first | refine blk_drewN ?_ _ | refine blk_drew ?_ | refine blk_alloc ?_ _)); exact BK602.out⟩, ⟨by repeat (first | (with_reducible first | exact HB.out | apply below_alloc | apply pw_below_drewN | apply below_drew1 | refine below_set ?_ GE602.out) | exact HB.out)⟩⟩
     case rest =>
      clear HC30
      try clear c1
      try clear c2
      try clear p2
      try clear q2
      try clear c3
      try clear c6
      try clear c6b0
      try clear c6b1
      try clear p6
      try clear c8
      try clear c16
      try clear c17
      try clear c18
      try clear c18b0
      try clear c18b1
      try clear c19
      try clear c19b0
      try clear c19b1
      try clear c20
      try clear c20b0
      try clear c20b1
      try clear c21
      try clear c21b0
      try clear c21b1
      try clear c22
      try clear c23
      try clear c23b0
      try clear c23b1
      try clear c24
      try clear c24b0
      try clear c24b1
      try clear c25
      try clear c25b0
      try clear c25b1
      try clear q28
      try clear c29
      try clear c30
      try clear c31
      try clear c31b0
      try clear hcz11_0
      try clear hcz11_1
      try clear hcz11_10
      try clear hcz11_11
      try clear hcz11_2
      try clear hcz11_3
      try clear hcz11_4
      try clear hcz11_5
      try clear hcz11_6
      try clear hcz11_7
      try clear hcz11_8
      try clear hcz11_9
      try clear hcz13_0
      try clear hcz13_1
      try clear hcz13_10
      try clear hcz13_11
      try clear hcz13_2
      try clear hcz13_3
      try clear hcz13_4
      try clear hcz13_5
      try clear hcz13_6
      try clear hcz13_7
      try clear hcz13_8
      try clear hcz13_9
      try clear hfz11_0
      try clear hfz11_1
      try clear hfz11_10
      try clear hfz11_11
      try clear hfz11_2
      try clear hfz11_3
      try clear hfz11_4
      try clear hfz11_5
      try clear hfz11_6
      try clear hfz11_7
      try clear hfz11_8
      try clear hfz11_9
      try clear hfz13_0
      try clear hfz13_1
      try clear hfz13_10
      try clear hfz13_11
      try clear hfz13_2
      try clear hfz13_3
      try clear hfz13_4
      try clear hfz13_5
      try clear hfz13_6
      try clear hfz13_7
      try clear hfz13_8
      try clear hfz13_9
      try clear p2
      try clear p6
      try clear q2
      try clear q28
      obtain ⟨kq, x103_29, rfl, HA, HJ29, HO_7, BK602, HB⟩ := hcut
      cases kq with
      | zero => exact absurd HA.out (by simp [magnetolaw04_FieldBack.j1])
      | succ kj29 =>
       have H := HA.out
       clear HA
       simp only [magnetolaw04_FieldBack.j1] at H
       have HC32 := Aside0.mk H
       clear H
       go_upto_if 103 with (fail)
       go_cut [] (fun wc => ∃ (kq : Nat), Aside0 (magnetolaw04_FieldBack.j2 kq a2 t603 t613 a0_0 a0_1 a0_2 a0_3 a0_4 a0_5 a0_6 a0_7 a0_8 a0_9 a0_10 a0_11 = some r) ∧ Aside0 (kq ≤ kj29) ∧ Aside0 (Kd.R (Kd.int .i64) 3 wc w.heap.size (fun _ => True) (.slice Ao15 t603.length co15) t603) ∧ Aside0 (wc.heap[gb602]? = some (.cells #[.int .i64 a0_0, .bool a0_1, .bool a0_2, .int .i64 a0_3, .int .u8 a0_4, .int .u8 a0_5, .int .u8 a0_6, .int .u8 a0_7, .int .u8 a0_8, .int .u8 a0_9, .int .u8 a0_10, .int .u8 a0_11] 24 (0, 0))) ∧ Aside0 (Below w.heap.size w wc))
       case first =>
        have H := HC32.out
        clear HC32
        by_cases c33 : x103_29 = true
        ·
         subst c33
         have H1 : (if 0 ≤ a1 then (if a1 ≤ (t603.length : Int) then ((field_Frame.f kj29 (t603.take (a1 : Int).toNat)).bind fun bt626 => (if a1 < t613 then (if (!(bt626.1 == 0) || (bt626.2.1 || (bt626.2.2.1 || (!(bt626.2.2.2.1 == 0) || ((!(bt626.2.2.2.2.1 == 0) || (!(bt626.2.2.2.2.2.1 == 0) || (!(bt626.2.2.2.2.2.2.1 == 0) || (!(bt626.2.2.2.2.2.2.2.1 == 0) || (!(bt626.2.2.2.2.2.2.2.2.1 == 0) || (!(bt626.2.2.2.2.2.2.2.2.2.1 == 0) || (!(bt626.2.2.2.2.2.2.2.2.2.2.1 == 0) || (!(bt626.2.2.2.2.2.2.2.2.2.2.2.1 == 0)))))))))))))) = true then (none) else (if bt626.2.2.2.2.2.2.2.2.2.2.2.2 = 13 then (if a1 ≥ t613 then (if (!(bt626.1 == a0_0) || (!(bt626.2.1 == a0_1) || (!(bt626.2.2.1 == a0_2) || (!(bt626.2.2.2.1 == a0_3) || ((!(bt626.2.2.2.2.1 == a0_4) || (!(bt626.2.2.2.2.2.1 == a0_5) || (!(bt626.2.2.2.2.2.2.1 == a0_6) || (!(bt626.2.2.2.2.2.2.2.1 == a0_7) || (!(bt626.2.2.2.2.2.2.2.2.1 == a0_8) || (!(bt626.2.2.2.2.2.2.2.2.2.1 == a0_9) || (!(bt626.2.2.2.2.2.2.2.2.2.2.1 == a0_10) || (!(bt626.2.2.2.2.2.2.2.2.2.2.2.1 == a0_11)))))))))))))) = true then (none) else (if bt626.2.2.2.2.2.2.2.2.2.2.2.2 = 0 then (magnetolaw04_FieldBack.j2 kj29 a2 t603 t613 a0_0 a0_1 a0_2 a0_3 a0_4 a0_5 a0_6 a0_7 a0_8 a0_9 a0_10 a0_11) else (none))) else (magnetolaw04_FieldBack.j2 kj29 a2 t603 t613 a0_0 a0_1 a0_2 a0_3 a0_4 a0_5 a0_6 a0_7 a0_8 a0_9 a0_10 a0_11)) else (none))) else (if a1 ≥ t613 then (if (!(bt626.1 == a0_0) || (!(bt626.2.1 == a0_1) || (!(bt626.2.2.1 == a0_2) || (!(bt626.2.2.2.1 == a0_3) || ((!(bt626.2.2.2.2.1 == a0_4) || (!(bt626.2.2.2.2.2.1 == a0_5) || (!(bt626.2.2.2.2.2.2.1 == a0_6) || (!(bt626.2.2.2.2.2.2.2.1 == a0_7) || (!(bt626.2.2.2.2.2.2.2.2.1 == a0_8) || (!(bt626.2.2.2.2.2.2.2.2.2.1 == a0_9) || (!(bt626.2.2.2.2.2.2.2.2.2.2.1 == a0_10) || (!(bt626.2.2.2.2.2.2.2.2.2.2.2.1 == a0_11)))))))))))))) = true then (none) else (if bt626.2.2.2.2.2.2.2.2.2.2.2.2 = 0 then (magnetolaw04_FieldBack.j2 kj29 a2 t603 t613 a0_0 a0_1 a0_2 a0_3 a0_4 a0_5 a0_6 a0_7 a0_8 a0_9 a0_10 a0_11) else (none))) else (magnetolaw04_FieldBack.j2 kj29 a2 t603 t613 a0_0 a0_1 a0_2 a0_3 a0_4 a0_5 a0_6 a0_7 a0_8 a0_9 a0_10 a0_11)))) else (none)) else (none)) = some r := by rw [if_pos rfl] at H; exact H
         clear H
         have H := H1
         clear H1
         by_cases c34 : 0 ≤ a1
         ·
          rw [if_pos c34] at H
          have c34b0 := eq_true c34
          have c34b1 : decide (0 ≤ a1) = true := decide_eq_true c34
          clear c34
          by_cases c35 : a1 ≤ (t603.length : Int)
          ·
           rw [if_pos c35] at H
           have c35b0 := eq_true c35
           have c35b1 : decide (a1 ≤ (t603.length : Int)) = true := decide_eq_true c35
           clear c35
           obtain ⟨y622, hy622⟩ : ∃ y_ : List Int, y_ = (t603.take (a1 : Int).toNat) := ⟨_, rfl⟩
           replace H : ((field_Frame.f kj29 y622).bind fun bt626 => (if a1 < t613 then (if (!(bt626.1 == 0) || (bt626.2.1 || (bt626.2.2.1 || (!(bt626.2.2.2.1 == 0) || ((!(bt626.2.2.2.2.1 == 0) || (!(bt626.2.2.2.2.2.1 == 0) || (!(bt626.2.2.2.2.2.2.1 == 0) || (!(bt626.2.2.2.2.2.2.2.1 == 0) || (!(bt626.2.2.2.2.2.2.2.2.1 == 0) || (!(bt626.2.2.2.2.2.2.2.2.2.1 == 0) || (!(bt626.2.2.2.2.2.2.2.2.2.2.1 == 0) || (!(bt626.2.2.2.2.2.2.2.2.2.2.2.1 == 0)))))))))))))) = true then (none) else (if bt626.2.2.2.2.2.2.2.2.2.2.2.2 = 13 then (if a1 ≥ t613 then (if (!(bt626.1 == a0_0) || (!(bt626.2.1 == a0_1) || (!(bt626.2.2.1 == a0_2) || (!(bt626.2.2.2.1 == a0_3) || ((!(bt626.2.2.2.2.1 == a0_4) || (!(bt626.2.2.2.2.2.1 == a0_5) || (!(bt626.2.2.2.2.2.2.1 == a0_6) || (!(bt626.2.2.2.2.2.2.2.1 == a0_7) || (!(bt626.2.2.2.2.2.2.2.2.1 == a0_8) || (!(bt626.2.2.2.2.2.2.2.2.2.1 == a0_9) || (!(bt626.2.2.2.2.2.2.2.2.2.2.1 == a0_10) || (!(bt626.2.2.2.2.2.2.2.2.2.2.2.1 == a0_11)))))))))))))) = true then (none) else (if bt626.2.2.2.2.2.2.2.2.2.2.2.2 = 0 then (magnetolaw04_FieldBack.j2 kj29 a2 t603 t613 a0_0 a0_1 a0_2 a0_3 a0_4 a0_5 a0_6 a0_7 a0_8 a0_9 a0_10 a0_11) else (none))) else (magnetolaw04_FieldBack.j2 kj29 a2 t603 t613 a0_0 a0_1 a0_2 a0_3 a0_4 a0_5 a0_6 a0_7 a0_8 a0_9 a0_10 a0_11)) else (none))) else (if a1 ≥ t613 then (if (!(bt626.1 == a0_0) || (!(bt626.2.1 == a0_1) || (!(bt626.2.2.1 == a0_2) || (!(bt626.2.2.2.1 == a0_3) || ((!(bt626.2.2.2.2.1 == a0_4) || (!(bt626.2.2.2.2.2.1 == a0_5) || (!(bt626.2.2.2.2.2.2.1 == a0_6) || (!(bt626.2.2.2.2.2.2.2.1 == a0_7) || (!(bt626.2.2.2.2.2.2.2.2.1 == a0_8) || (!(bt626.2.2.2.2.2.2.2.2.2.1 == a0_9) || (!(bt626.2.2.2.2.2.2.2.2.2.2.1 == a0_10) || (!(bt626.2.2.2.2.2.2.2.2.2.2.2.1 == a0_11)))))))))))))) = true then (none) else (if bt626.2.2.2.2.2.2.2.2.2.2.2.2 = 0 then (magnetolaw04_FieldBack.j2 kj29 a2 t603 t613 a0_0 a0_1 a0_2 a0_3 a0_4 a0_5 a0_6 a0_7 a0_8 a0_9 a0_10 a0_11) else (none))) else (magnetolaw04_FieldBack.j2 kj29 a2 t603 t613 a0_0 a0_1 a0_2 a0_3 a0_4 a0_5 a0_6 a0_7 a0_8 a0_9 a0_10 a0_11)))) = some r := by first | (rw [hy622]; with_reducible exact H) | (have H2_ := (Option.bind_some _ _).symm.trans H; rw [hy622]; with_reducible exact H2_) | (have H2_ := (Option.bind_some _ _).symm.trans H; with_reducible exact H2_) | with_reducible exact H | (rw [hy622]; exact H) | exact H
           have Ny622 := Aside0.mk hy622
           clear hy622
           replace H := Option.bind_eq_some_iff.mp H
           obtain ⟨⟨t626, t627, t628, t629, t630, t631, t632, t633, t634, t635, t636, t637, t638⟩, A360, H⟩ := H
           replace H : (if a1 < t613 then (if (!(t626 == 0) || (t627 || (t628 || (!(t629 == 0) || ((!(t630 == 0) || (!(t631 == 0) || (!(t632 == 0) || (!(t633 == 0) || (!(t634 == 0) || (!(t635 == 0) || (!(t636 == 0) || (!(t637 == 0)))))))))))))) = true then (none) else (if t638 = 13 then (if a1 ≥ t613 then (if (!(t626 == a0_0) || (!(t627 == a0_1) || (!(t628 == a0_2) || (!(t629 == a0_3) || ((!(t630 == a0_4) || (!(t631 == a0_5) || (!(t632 == a0_6) || (!(t633 == a0_7) || (!(t634 == a0_8) || (!(t635 == a0_9) || (!(t636 == a0_10) || (!(t637 == a0_11)))))))))))))) = true then (none) else (if t638 = 0 then (magnetolaw04_FieldBack.j2 kj29 a2 t603 t613 a0_0 a0_1 a0_2 a0_3 a0_4 a0_5 a0_6 a0_7 a0_8 a0_9 a0_10 a0_11) else (none))) else (magnetolaw04_FieldBack.j2 kj29 a2 t603 t613 a0_0 a0_1 a0_2 a0_3 a0_4 a0_5 a0_6 a0_7 a0_8 a0_9 a0_10 a0_11)) else (none))) else (if a1 ≥ t613 then (if (!(t626 == a0_0) || (!(t627 == a0_1) || (!(t628 == a0_2) || (!(t629 == a0_3) || ((!(t630 == a0_4) || (!(t631 == a0_5) || (!(t632 == a0_6) || (!(t633 == a0_7) || (!(t634 == a0_8) || (!(t635 == a0_9) || (!(t636 == a0_10) || (!(t637 == a0_11)))))))))))))) = true then (none) else (if t638 = 0 then (magnetolaw04_FieldBack.j2 kj29 a2 t603 t613 a0_0 a0_1 a0_2 a0_3 a0_4 a0_5 a0_6 a0_7 a0_8 a0_9 a0_10 a0_11) else (none))) else (magnetolaw04_FieldBack.j2 kj29 a2 t603 t613 a0_0 a0_1 a0_2 a0_3 a0_4 a0_5 a0_6 a0_7 a0_8 a0_9 a0_10 a0_11))) = some r := H
           have A36 := Aside0.mk A360
           clear A360
           by_cases c37 : a1 < t613
           ·
            rw [if_pos c37] at H
            have c37b0 : decide (a1 < t613) = true := decide_eq_true c37
            clear c37
            (first | rw [c37b0] | (simp only [i64_w, i32_w]; rw [c37b0]) | skip)
            by_cases c38 : (!(t626 == 0) || (t627 || (t628 || (!(t629 == 0) || ((!(t630 == 0) || (!(t631 == 0) || (!(t632 == 0) || (!(t633 == 0) || (!(t634 == 0) || (!(t635 == 0) || (!(t636 == 0) || (!(t637 == 0)))))))))))))) = true
            ·
             rw [if_pos c38] at H
             exact absurd H (by simp)
            ·
             rw [if_neg c38] at H
             have c38b0 : (!(t626 == 0) || (t627 || (t628 || (!(t629 == 0) || ((!(t630 == 0) || (!(t631 == 0) || (!(t632 == 0) || (!(t633 == 0) || (!(t634 == 0) || (!(t635 == 0) || (!(t636 == 0) || (!(t637 == 0)))))))))))))) = false := by simpa using c38
             clear c38
             by_cases c39 : t638 = 13
             ·
              rw [if_pos c39] at H
              have c39b0 : (t638 == 13) = true := beq_iff_eq.mpr c39
              have c39b1 : (t638 != 13) = false := bne_eq_false_iff_eq.mpr c39
              clear c39
              by_cases c40 : a1 ≥ t613
              ·
               exact absurd (of_decide_eq_true c37b0) (by omega)
              ·
               rw [if_neg c40] at H
               have c40b0 : decide (t613 ≤ a1) = false := decide_eq_false c40
               clear c40
               have H' := Aside0.mk H
               clear H
               have q49 : (a1 : Int) ≤ ((t603.length : Int) : Int) := of_decide_eq_true (by first | (with_reducible assumption) | assumption)
               obtain ⟨i049, hi049, _, hsz49, _⟩ := info_parts info3
               have hroom49 : t603.length ≤ co15 := (Kd.R_reads' HO_7.out).2.1
               have hC49 : Kd.C (Kd.int .i64) _ Ao15 t603.length t603 := (Kd.R_reads' HO_7.out).2.2
               have hcut49 := cut_to (P := Try.prog) 25 3 .i64 Try.underlying25 hi049 Ao15 t603.length co15 a1 (of_decide_eq_true (by first | (with_reducible assumption) | assumption)) q49 hroom49
               have hr49 := Kd.C_take (m := (a1 : Int).toNat) hC49 (by omega)
               have hy49 : y622.length = (a1 : Int).toNat := (by rw [Ny622.out, List.length_take]; omega)
               rw [← Ny622.out] at hr49
               rw [← hy49] at hcut49
               have HR625 := Aside0.mk hr49
               have HC625 := Aside0.mk (show y622.length ≤ co15 from by omega)
               clear hr49 hC49 hroom49 hi049 hsz49
               have KY49 := Aside0.mk hy49
               clear hy49
               have KL49 := Aside0.mk (show (a1 : Int).toNat ≤ t603.length from by omega)
               replace q49 := eq_true q49
               go_wp2_with (first | ((with_reducible refine gate_callee (f := 29) rfl ?_); refine goesL_ (some 108) rfl rfl Try.func29 (by kernel_rfl) rfl #[.slice Ao15 y622.length co15] rfl (by (try simp only [List.map_toArray, List.map_cons, List.map_nil]); first | done | rfl | (simp only [List.length_drop, List.length_take]; rfl)) ?_; (with_reducible refine (field_Frame.calls kj29 _ _ y622 t626 t627 t628 t629 t630 t631 t632 t633 t634 t635 t636 t637 t638 _ ?side1 ?side2 A36.out).mono ?_); (case side1 => repeat (first | exact (by repeat (first | (with_reducible exact HR625.out) | (with_reducible refine Kd.C_alloc ?_ _) | (with_reducible refine Kd.C_drewN ?_ _) | (with_reducible refine Kd.C_drew ?_) | exact HR625.out)) | (with_reducible refine Kd.C_alloc ?_ _) | (with_reducible refine Kd.C_drewN ?_ _) | (with_reducible refine Kd.C_drew ?_))); (case side2 => exact HC625.out); rintro e w50 ⟨rfl, hb⟩; refine ⟨_, rfl, ?_⟩; have n0_ := Aside0.mk (Kd.R_below (by (with_reducible repeat (first | apply Kd.R_alloc | apply Kd.R_drewN | apply Kd.R_drew)); exact HO_7.out) hb); have n1_ := Aside0.mk (blk_below (g := gb602) (o := .cells #[.int .i64 a0_0, .bool a0_1, .bool a0_2, .int .i64 a0_3, .int .u8 a0_4, .int .u8 a0_5, .int .u8 a0_6, .int .u8 a0_7, .int .u8 a0_8, .int .u8 a0_9, .int .u8 a0_10, .int .u8 a0_11] 24 (0, 0)) (by (with_reducible repeat (first | refine blk_drewN ?_ _ | refine blk_drew ?_ | refine blk_alloc ?_ _)); exact BK602.out) hb); have n2_ := Aside0.mk (Kd.C_below (by repeat (first | (with_reducible exact HR625.out) | (with_reducible refine Kd.C_alloc ?_ _) | (with_reducible refine Kd.C_drewN ?_ _) | (with_reducible refine Kd.C_drew ?_) | exact HR625.out)) hb); have n3_ := Aside0.mk (below_step (by repeat (first | (with_reducible first | exact HB.out | apply below_alloc | apply pw_below_drewN | apply below_drew1 | refine below_set ?_ GE602.out) | exact HB.out)) hb); clear HO_7; clear BK602; clear HR625; clear HB; have HO_7 := n0_; have BK602 := n1_; have HR625 := n2_; have HB := n3_; clear n0_ n1_ n2_ n3_; (try clear hb); (try clear hb2); (try clear hk); (try clear hi)) | ((with_reducible refine gate_dst (N := 15) rfl ?_); (try (refine gate_guard (by rfl) ?_; dsimp only)); refine box_event ?hg (N := 15) ?hd (cs := #[.int .i64 0, .bool false, .bool false, .int .i64 0, .int .u8 0, .int .u8 0, .int .u8 0, .int .u8 0, .int .u8 0, .int .u8 0, .int .u8 0, .int .u8 0]) (t := 24) ?hr ?_; (case hd => rfl); (case hg => rfl); (case hr => first | (go_simp; done) | (go_simp; rfl)); intro gb639 hg w51 hbox hb; have n0_ := Aside0.mk (Kd.R_below (by (with_reducible repeat (first | apply Kd.R_alloc | apply Kd.R_drewN | apply Kd.R_drew)); exact HO_7.out) hb); have n1_ := Aside0.mk (blk_below (g := gb602) (o := .cells #[.int .i64 a0_0, .bool a0_1, .bool a0_2, .int .i64 a0_3, .int .u8 a0_4, .int .u8 a0_5, .int .u8 a0_6, .int .u8 a0_7, .int .u8 a0_8, .int .u8 a0_9, .int .u8 a0_10, .int .u8 a0_11] 24 (0, 0)) (by (with_reducible repeat (first | refine blk_drewN ?_ _ | refine blk_drew ?_ | refine blk_alloc ?_ _)); exact BK602.out) hb); have n2_ := Aside0.mk (Kd.C_below (by repeat (first | (with_reducible exact HR625.out) | (with_reducible refine Kd.C_alloc ?_ _) | (with_reducible refine Kd.C_drewN ?_ _) | (with_reducible refine Kd.C_drew ?_) | exact HR625.out)) hb); have n3_ := Aside0.mk (below_step (by repeat (first | (with_reducible first | exact HB.out | apply below_alloc | apply pw_below_drewN | apply below_drew1 | refine below_set ?_ GE602.out) | exact HB.out)) hb); have n4_ := Aside0.mk (hbox); have n5_ := Aside0.mk ((by rw [hg]; exact (below_size (by repeat (first | (with_reducible first | exact HB.out | apply below_alloc | apply pw_below_drewN | apply below_drew1 | refine below_set ?_ GE602.out) | exact HB.out))) : w.heap.size ≤ gb639)); have n6_ := Aside0.mk ((by rw [hg]; exact (below_size (by repeat (first | (with_reducible first | exact HB.out | apply below_alloc | apply pw_below_drewN | apply below_drew1 | refine below_set ?_ GE602.out) | exact HB.out))) : w.heap.size ≤ gb639)); have n7_ := Aside0.mk ((by rw [hg]; exact Nat.ne_of_lt (blk_lt (g := gb602) (o := .cells #[.int .i64 a0_0, .bool a0_1, .bool a0_2, .int .i64 a0_3, .int .u8 a0_4, .int .u8 a0_5, .int .u8 a0_6, .int .u8 a0_7, .int .u8 a0_8, .int .u8 a0_9, .int .u8 a0_10, .int .u8 a0_11] 24 (0, 0)) (by (with_reducible repeat (first | refine blk_drewN ?_ _ | refine blk_drew ?_ | refine blk_alloc ?_ _)); exact BK602.out)) : gb602 ≠ gb639)); have n8_ := Aside0.mk ((by rw [hg]; exact Nat.ne_of_gt (blk_lt (g := gb602) (o := .cells #[.int .i64 a0_0, .bool a0_1, .bool a0_2, .int .i64 a0_3, .int .u8 a0_4, .int .u8 a0_5, .int .u8 a0_6, .int .u8 a0_7, .int .u8 a0_8, .int .u8 a0_9, .int .u8 a0_10, .int .u8 a0_11] 24 (0, 0)) (by (with_reducible repeat (first | refine blk_drewN ?_ _ | refine blk_drew ?_ | refine blk_alloc ?_ _)); exact BK602.out)) : gb639 ≠ gb602)); clear HO_7; clear BK602; clear HR625; clear HB; have HO_7 := n0_; have BK602 := n1_; have HR625 := n2_; have HB := n3_; have BK639 := n4_; have GW639 := n5_; have GE639 := n6_; have NB602_639 := n7_; have NB639_602 := n8_; clear n0_ n1_ n2_ n3_ n4_ n5_ n6_ n7_ n8_; clear hb hbox hg; have hnb52 := NB639_602.out; have hnc52 := NB602_639.out; have hcz53_0 : w51.cell? ⟨gb639, 0, none⟩ = some (.int .i64 0) := (blk_cell BK639.out 0).trans rfl; have hcz53_1 : w51.cell? ⟨gb639, 1, none⟩ = some (.bool false) := (blk_cell BK639.out 1).trans rfl; have hcz53_2 : w51.cell? ⟨gb639, 2, none⟩ = some (.bool false) := (blk_cell BK639.out 2).trans rfl; have hcz53_3 : w51.cell? ⟨gb639, 3, none⟩ = some (.int .i64 0) := (blk_cell BK639.out 3).trans rfl; have hcz53_4 : w51.cell? ⟨gb639, 4, none⟩ = some (.int .u8 0) := (blk_cell BK639.out 4).trans rfl; have hcz53_5 : w51.cell? ⟨gb639, 5, none⟩ = some (.int .u8 0) := (blk_cell BK639.out 5).trans rfl; have hcz53_6 : w51.cell? ⟨gb639, 6, none⟩ = some (.int .u8 0) := (blk_cell BK639.out 6).trans rfl; have hcz53_7 : w51.cell? ⟨gb639, 7, none⟩ = some (.int .u8 0) := (blk_cell BK639.out 7).trans rfl; have hcz53_8 : w51.cell? ⟨gb639, 8, none⟩ = some (.int .u8 0) := (blk_cell BK639.out 8).trans rfl; have hcz53_9 : w51.cell? ⟨gb639, 9, none⟩ = some (.int .u8 0) := (blk_cell BK639.out 9).trans rfl; have hcz53_10 : w51.cell? ⟨gb639, 10, none⟩ = some (.int .u8 0) := (blk_cell BK639.out 10).trans rfl; have hcz53_11 : w51.cell? ⟨gb639, 11, none⟩ = some (.int .u8 0) := (blk_cell BK639.out 11).trans rfl; have hfz53_0 := blk_frozen BK639.out 0; have hfz53_1 := blk_frozen BK639.out 1; have hfz53_2 := blk_frozen BK639.out 2; have hfz53_3 := blk_frozen BK639.out 3; have hfz53_4 := blk_frozen BK639.out 4; have hfz53_5 := blk_frozen BK639.out 5; have hfz53_6 := blk_frozen BK639.out 6; have hfz53_7 := blk_frozen BK639.out 7; have hfz53_8 := blk_frozen BK639.out 8; have hfz53_9 := blk_frozen BK639.out 9; have hfz53_10 := blk_frozen BK639.out 10; have hfz53_11 := blk_frozen BK639.out 11))
               go_meet
               case rel => exact ⟨_, H', ⟨by have := HJ8.out; have := HJ29.out; first | omega | exact Nat.le_refl _⟩, ⟨by (with_reducible repeat (first | apply Kd.R_alloc | apply Kd.R_drewN | apply Kd.R_drew)); exact Kd.R_mono (Kd.R_far (p := ⟨gb639, 11, none⟩) (Kd.R_far (p := ⟨gb639, 10, none⟩) (Kd.R_far (p := ⟨gb639, 9, none⟩) (Kd.R_far (p := ⟨gb639, 8, none⟩) (Kd.R_far (p := ⟨gb639, 7, none⟩) (Kd.R_far (p := ⟨gb639, 6, none⟩) (Kd.R_far (p := ⟨gb639, 5, none⟩) (Kd.R_far (p := ⟨gb639, 4, none⟩) (Kd.R_far (p := ⟨gb639, 3, none⟩) (Kd.R_far (p := ⟨gb639, 2, none⟩) (Kd.R_far (p := ⟨gb639, 1, none⟩) (Kd.R_far (p := ⟨gb639, 0, none⟩) (Kd.R_types HO_7.out BK639.out (by decide)) (fun _ hk => hk.2) (.int .i64 t626)) (fun _ hk => hk.2) (.bool t627)) (fun _ hk => hk.2) (.bool t628)) (fun _ hk => hk.2) (.int .i64 t629)) (fun _ hk => hk.2) (.int .u8 t630)) (fun _ hk => hk.2) (.int .u8 t631)) (fun _ hk => hk.2) (.int .u8 t632)) (fun _ hk => hk.2) (.int .u8 t633)) (fun _ hk => hk.2) (.int .u8 t634)) (fun _ hk => hk.2) (.int .u8 t635)) (fun _ hk => hk.2) (.int .u8 t636)) (fun _ hk => hk.2) (.int .u8 t637)) (fun _ hk => trivial)⟩, ⟨by (with_reducible repeat (first | refine blk_drewN ?_ _ | refine blk_drew ?_ | refine blk_alloc ?_ _)); refine blk_far ?_ NB602_639.out _; (with_reducible repeat (first | refine blk_drewN ?_ _ | refine blk_drew ?_ | refine blk_alloc ?_ _)); refine blk_far ?_ NB602_639.out _; (with_reducible repeat (first | refine blk_drewN ?_ _ | refine blk_drew ?_ | refine blk_alloc ?_ _)); refine blk_far ?_ NB602_639.out _; (with_reducible repeat (first | refine blk_drewN ?_ _ | refine blk_drew ?_ | refine blk_alloc ?_ _)); refine blk_far ?_ NB602_639.out _; (with_reducible repeat (first | refine blk_drewN ?_ _ | refine blk_drew ?_ | refine blk_alloc ?_ _)); refine blk_far ?_ NB602_639.out _; (with_reducible repeat (first | refine blk_drewN ?_ _ | refine blk_drew ?_ | refine blk_alloc ?_ _)); refine blk_far ?_ NB602_639.out _; (with_reducible repeat (first | refine blk_drewN ?_ _ | refine blk_drew ?_ | refine blk_alloc ?_ _)); refine blk_far ?_ NB602_639.out _; (with_reducible repeat (first | refine blk_drewN ?_ _ | refine blk_drew ?_ | refine blk_alloc ?_ _)); refine blk_far ?_ NB602_639.out _; (with_reducible repeat (first | refine blk_drewN ?_ _ | refine blk_drew ?_ | refine blk_alloc ?_ _)); refine blk_far ?_ NB602_639.out _; (with_reducible repeat (first | refine blk_drewN ?_ _ | refine blk_drew ?_ | refine blk_alloc ?_ _)); refine blk_far ?_ NB602_639.out _; (with_reducible repeat (first | refine blk_drewN ?_ _ | refine blk_drew ?_ | refine blk_alloc ?_ _)); refine blk_far ?_ NB602_639.out _; (with_reducible repeat (first | refine blk_drewN ?_ _ | refine blk_drew ?_ | refine blk_alloc ?_ _)); refine blk_far ?_ NB602_639.out _; (with_reducible repeat (first | refine blk_drewN ?_ _ | refine blk_drew ?_ | refine blk_alloc ?_ _)); exact BK602.out⟩, ⟨by repeat (first | (with_reducible first | exact HB.out | apply below_alloc | apply pw_below_drewN | apply below_drew1 | refine below_set ?_ GE602.out | refine below_set ?_ GE639.out) | exact HB.out)⟩⟩
             ·
              rw [if_neg c39] at H
              exact absurd H (by simp)
           ·
            rw [if_neg c37] at H
            have c37b0 : decide (a1 < t613) = false := decide_eq_false c37
            clear c37
            (first | rw [c37b0] | (simp only [i64_w, i32_w]; rw [c37b0]) | skip)
            by_cases c54 : a1 ≥ t613
            ·
             rw [if_pos c54] at H
             have c54b0 : decide (t613 ≤ a1) = true := decide_eq_true c54
             clear c54
             by_cases c55 : (!(t626 == a0_0) || (!(t627 == a0_1) || (!(t628 == a0_2) || (!(t629 == a0_3) || ((!(t630 == a0_4) || (!(t631 == a0_5) || (!(t632 == a0_6) || (!(t633 == a0_7) || (!(t634 == a0_8) || (!(t635 == a0_9) || (!(t636 == a0_10) || (!(t637 == a0_11)))))))))))))) = true
             ·
              rw [if_pos c55] at H
              exact absurd H (by simp)
             ·
              rw [if_neg c55] at H
              have c55b0 : (!(t626 == a0_0) || (!(t627 == a0_1) || (!(t628 == a0_2) || (!(t629 == a0_3) || ((!(t630 == a0_4) || (!(t631 == a0_5) || (!(t632 == a0_6) || (!(t633 == a0_7) || (!(t634 == a0_8) || (!(t635 == a0_9) || (!(t636 == a0_10) || (!(t637 == a0_11)))))))))))))) = false := by simpa using c55
              clear c55
              by_cases c56 : t638 = 0
              ·
               rw [if_pos c56] at H
               have c56b0 : (t638 == 0) = true := beq_iff_eq.mpr c56
               have c56b1 : (t638 != 0) = false := bne_eq_false_iff_eq.mpr c56
               clear c56
               have H' := Aside0.mk H
               clear H
               have q57 : (a1 : Int) ≤ ((t603.length : Int) : Int) := of_decide_eq_true (by first | (with_reducible assumption) | assumption)
               obtain ⟨i057, hi057, _, hsz57, _⟩ := info_parts info3
               have hroom57 : t603.length ≤ co15 := (Kd.R_reads' HO_7.out).2.1
               have hC57 : Kd.C (Kd.int .i64) _ Ao15 t603.length t603 := (Kd.R_reads' HO_7.out).2.2
               have hcut57 := cut_to (P := Try.prog) 25 3 .i64 Try.underlying25 hi057 Ao15 t603.length co15 a1 (of_decide_eq_true (by first | (with_reducible assumption) | assumption)) q57 hroom57
               have hr57 := Kd.C_take (m := (a1 : Int).toNat) hC57 (by omega)
               have hy57 : y622.length = (a1 : Int).toNat := (by rw [Ny622.out, List.length_take]; omega)
               rw [← Ny622.out] at hr57
               rw [← hy57] at hcut57
               have HR625 := Aside0.mk hr57
               have HC625 := Aside0.mk (show y622.length ≤ co15 from by omega)
               clear hr57 hC57 hroom57 hi057 hsz57
               have KY57 := Aside0.mk hy57
               clear hy57
               have KL57 := Aside0.mk (show (a1 : Int).toNat ≤ t603.length from by omega)
               replace q57 := eq_true q57
               go_wp2_with (first | ((with_reducible refine gate_callee (f := 29) rfl ?_); refine goesL_ (some 108) rfl rfl Try.func29 (by kernel_rfl) rfl #[.slice Ao15 y622.length co15] rfl (by (try simp only [List.map_toArray, List.map_cons, List.map_nil]); first | done | rfl | (simp only [List.length_drop, List.length_take]; rfl)) ?_; (with_reducible refine (field_Frame.calls kj29 _ _ y622 t626 t627 t628 t629 t630 t631 t632 t633 t634 t635 t636 t637 t638 _ ?side1 ?side2 A36.out).mono ?_); (case side1 => repeat (first | exact (by repeat (first | (with_reducible exact HR625.out) | (with_reducible refine Kd.C_alloc ?_ _) | (with_reducible refine Kd.C_drewN ?_ _) | (with_reducible refine Kd.C_drew ?_) | exact HR625.out)) | (with_reducible refine Kd.C_alloc ?_ _) | (with_reducible refine Kd.C_drewN ?_ _) | (with_reducible refine Kd.C_drew ?_))); (case side2 => exact HC625.out); rintro e w58 ⟨rfl, hb⟩; refine ⟨_, rfl, ?_⟩; have n0_ := Aside0.mk (Kd.R_below (by (with_reducible repeat (first | apply Kd.R_alloc | apply Kd.R_drewN | apply Kd.R_drew)); exact HO_7.out) hb); have n1_ := Aside0.mk (blk_below (g := gb602) (o := .cells #[.int .i64 a0_0, .bool a0_1, .bool a0_2, .int .i64 a0_3, .int .u8 a0_4, .int .u8 a0_5, .int .u8 a0_6, .int .u8 a0_7, .int .u8 a0_8, .int .u8 a0_9, .int .u8 a0_10, .int .u8 a0_11] 24 (0, 0)) (by (with_reducible repeat (first | refine blk_drewN ?_ _ | refine blk_drew ?_ | refine blk_alloc ?_ _)); exact BK602.out) hb); have n2_ := Aside0.mk (Kd.C_below (by repeat (first | (with_reducible exact HR625.out) | (with_reducible refine Kd.C_alloc ?_ _) | (with_reducible refine Kd.C_drewN ?_ _) | (with_reducible refine Kd.C_drew ?_) | exact HR625.out)) hb); have n3_ := Aside0.mk (below_step (by repeat (first | (with_reducible first | exact HB.out | apply below_alloc | apply pw_below_drewN | apply below_drew1 | refine below_set ?_ GE602.out) | exact HB.out)) hb); clear HO_7; clear BK602; clear HR625; clear HB; have HO_7 := n0_; have BK602 := n1_; have HR625 := n2_; have HB := n3_; clear n0_ n1_ n2_ n3_; (try clear hb); (try clear hb2); (try clear hk); (try clear hi)) | ((with_reducible refine gate_dst (N := 15) rfl ?_); (try (refine gate_guard (by rfl) ?_; dsimp only)); refine box_event ?hg (N := 15) ?hd (cs := #[.int .i64 0, .bool false, .bool false, .int .i64 0, .int .u8 0, .int .u8 0, .int .u8 0, .int .u8 0, .int .u8 0, .int .u8 0, .int .u8 0, .int .u8 0]) (t := 24) ?hr ?_; (case hd => rfl); (case hg => rfl); (case hr => first | (go_simp; done) | (go_simp; rfl)); intro gb639 hg w59 hbox hb; have n0_ := Aside0.mk (Kd.R_below (by (with_reducible repeat (first | apply Kd.R_alloc | apply Kd.R_drewN | apply Kd.R_drew)); exact HO_7.out) hb); have n1_ := Aside0.mk (blk_below (g := gb602) (o := .cells #[.int .i64 a0_0, .bool a0_1, .bool a0_2, .int .i64 a0_3, .int .u8 a0_4, .int .u8 a0_5, .int .u8 a0_6, .int .u8 a0_7, .int .u8 a0_8, .int .u8 a0_9, .int .u8 a0_10, .int .u8 a0_11] 24 (0, 0)) (by (with_reducible repeat (first | refine blk_drewN ?_ _ | refine blk_drew ?_ | refine blk_alloc ?_ _)); exact BK602.out) hb); have n2_ := Aside0.mk (Kd.C_below (by repeat (first | (with_reducible exact HR625.out) | (with_reducible refine Kd.C_alloc ?_ _) | (with_reducible refine Kd.C_drewN ?_ _) | (with_reducible refine Kd.C_drew ?_) | exact HR625.out)) hb); have n3_ := Aside0.mk (below_step (by repeat (first | (with_reducible first | exact HB.out | apply below_alloc | apply pw_below_drewN | apply below_drew1 | refine below_set ?_ GE602.out) | exact HB.out)) hb); have n4_ := Aside0.mk (hbox); have n5_ := Aside0.mk ((by rw [hg]; exact (below_size (by repeat (first | (with_reducible first | exact HB.out | apply below_alloc | apply pw_below_drewN | apply below_drew1 | refine below_set ?_ GE602.out) | exact HB.out))) : w.heap.size ≤ gb639)); have n6_ := Aside0.mk ((by rw [hg]; exact (below_size (by repeat (first | (with_reducible first | exact HB.out | apply below_alloc | apply pw_below_drewN | apply below_drew1 | refine below_set ?_ GE602.out) | exact HB.out))) : w.heap.size ≤ gb639)); have n7_ := Aside0.mk ((by rw [hg]; exact Nat.ne_of_lt (blk_lt (g := gb602) (o := .cells #[.int .i64 a0_0, .bool a0_1, .bool a0_2, .int .i64 a0_3, .int .u8 a0_4, .int .u8 a0_5, .int .u8 a0_6, .int .u8 a0_7, .int .u8 a0_8, .int .u8 a0_9, .int .u8 a0_10, .int .u8 a0_11] 24 (0, 0)) (by (with_reducible repeat (first | refine blk_drewN ?_ _ | refine blk_drew ?_ | refine blk_alloc ?_ _)); exact BK602.out)) : gb602 ≠ gb639)); have n8_ := Aside0.mk ((by rw [hg]; exact Nat.ne_of_gt (blk_lt (g := gb602) (o := .cells #[.int .i64 a0_0, .bool a0_1, .bool a0_2, .int .i64 a0_3, .int .u8 a0_4, .int .u8 a0_5, .int .u8 a0_6, .int .u8 a0_7, .int .u8 a0_8, .int .u8 a0_9, .int .u8 a0_10, .int .u8 a0_11] 24 (0, 0)) (by (with_reducible repeat (first | refine blk_drewN ?_ _ | refine blk_drew ?_ | refine blk_alloc ?_ _)); exact BK602.out)) : gb639 ≠ gb602)); clear HO_7; clear BK602; clear HR625; clear HB; have HO_7 := n0_; have BK602 := n1_; have HR625 := n2_; have HB := n3_; have BK639 := n4_; have GW639 := n5_; have GE639 := n6_; have NB602_639 := n7_; have NB639_602 := n8_; clear n0_ n1_ n2_ n3_ n4_ n5_ n6_ n7_ n8_; clear hb hbox hg; have hnb60 := NB639_602.out; have hnc60 := NB602_639.out; have hcz61_0 : w59.cell? ⟨gb639, 0, none⟩ = some (.int .i64 0) := (blk_cell BK639.out 0).trans rfl; have hcz61_1 : w59.cell? ⟨gb639, 1, none⟩ = some (.bool false) := (blk_cell BK639.out 1).trans rfl; have hcz61_2 : w59.cell? ⟨gb639, 2, none⟩ = some (.bool false) := (blk_cell BK639.out 2).trans rfl; have hcz61_3 : w59.cell? ⟨gb639, 3, none⟩ = some (.int .i64 0) := (blk_cell BK639.out 3).trans rfl; have hcz61_4 : w59.cell? ⟨gb639, 4, none⟩ = some (.int .u8 0) := (blk_cell BK639.out 4).trans rfl; have hcz61_5 : w59.cell? ⟨gb639, 5, none⟩ = some (.int .u8 0) := (blk_cell BK639.out 5).trans rfl; have hcz61_6 : w59.cell? ⟨gb639, 6, none⟩ = some (.int .u8 0) := (blk_cell BK639.out 6).trans rfl; have hcz61_7 : w59.cell? ⟨gb639, 7, none⟩ = some (.int .u8 0) := (blk_cell BK639.out 7).trans rfl; have hcz61_8 : w59.cell? ⟨gb639, 8, none⟩ = some (.int .u8 0) := (blk_cell BK639.out 8).trans rfl; have hcz61_9 : w59.cell? ⟨gb639, 9, none⟩ = some (.int .u8 0) := (blk_cell BK639.out 9).trans rfl; have hcz61_10 : w59.cell? ⟨gb639, 10, none⟩ = some (.int .u8 0) := (blk_cell BK639.out 10).trans rfl; have hcz61_11 : w59.cell? ⟨gb639, 11, none⟩ = some (.int .u8 0) := (blk_cell BK639.out 11).trans rfl; have hfz61_0 := blk_frozen BK639.out 0; have hfz61_1 := blk_frozen BK639.out 1; have hfz61_2 := blk_frozen BK639.out 2; have hfz61_3 := blk_frozen BK639.out 3; have hfz61_4 := blk_frozen BK639.out 4; have hfz61_5 := blk_frozen BK639.out 5; have hfz61_6 := blk_frozen BK639.out 6; have hfz61_7 := blk_frozen BK639.out 7; have hfz61_8 := blk_frozen BK639.out 8; have hfz61_9 := blk_frozen BK639.out 9; have hfz61_10 := blk_frozen BK639.out 10; have hfz61_11 := blk_frozen BK639.out 11; have hcz62_0 : w59.cell? ⟨gb602, 0, none⟩ = some (.int .i64 a0_0) := (blk_cell BK602.out 0).trans rfl; have hcz62_1 : w59.cell? ⟨gb602, 1, none⟩ = some (.bool a0_1) := (blk_cell BK602.out 1).trans rfl; have hcz62_2 : w59.cell? ⟨gb602, 2, none⟩ = some (.bool a0_2) := (blk_cell BK602.out 2).trans rfl; have hcz62_3 : w59.cell? ⟨gb602, 3, none⟩ = some (.int .i64 a0_3) := (blk_cell BK602.out 3).trans rfl; have hcz62_4 : w59.cell? ⟨gb602, 4, none⟩ = some (.int .u8 a0_4) := (blk_cell BK602.out 4).trans rfl; have hcz62_5 : w59.cell? ⟨gb602, 5, none⟩ = some (.int .u8 a0_5) := (blk_cell BK602.out 5).trans rfl; have hcz62_6 : w59.cell? ⟨gb602, 6, none⟩ = some (.int .u8 a0_6) := (blk_cell BK602.out 6).trans rfl; have hcz62_7 : w59.cell? ⟨gb602, 7, none⟩ = some (.int .u8 a0_7) := (blk_cell BK602.out 7).trans rfl; have hcz62_8 : w59.cell? ⟨gb602, 8, none⟩ = some (.int .u8 a0_8) := (blk_cell BK602.out 8).trans rfl; have hcz62_9 : w59.cell? ⟨gb602, 9, none⟩ = some (.int .u8 a0_9) := (blk_cell BK602.out 9).trans rfl; have hcz62_10 : w59.cell? ⟨gb602, 10, none⟩ = some (.int .u8 a0_10) := (blk_cell BK602.out 10).trans rfl; have hcz62_11 : w59.cell? ⟨gb602, 11, none⟩ = some (.int .u8 a0_11) := (blk_cell BK602.out 11).trans rfl; have hfz62_0 := blk_frozen BK602.out 0; have hfz62_1 := blk_frozen BK602.out 1; have hfz62_2 := blk_frozen BK602.out 2; have hfz62_3 := blk_frozen BK602.out 3; have hfz62_4 := blk_frozen BK602.out 4; have hfz62_5 := blk_frozen BK602.out 5; have hfz62_6 := blk_frozen BK602.out 6; have hfz62_7 := blk_frozen BK602.out 7; have hfz62_8 := blk_frozen BK602.out 8; have hfz62_9 := blk_frozen BK602.out 9; have hfz62_10 := blk_frozen BK602.out 10; have hfz62_11 := blk_frozen BK602.out 11))
               go_meet
               case rel => exact ⟨_, H', ⟨by have := HJ8.out; have := HJ29.out; first | omega | exact Nat.le_refl _⟩, ⟨by (with_reducible repeat (first | apply Kd.R_alloc | apply Kd.R_drewN | apply Kd.R_drew)); exact Kd.R_mono (Kd.R_far (p := ⟨gb639, 11, none⟩) (Kd.R_far (p := ⟨gb639, 10, none⟩) (Kd.R_far (p := ⟨gb639, 9, none⟩) (Kd.R_far (p := ⟨gb639, 8, none⟩) (Kd.R_far (p := ⟨gb639, 7, none⟩) (Kd.R_far (p := ⟨gb639, 6, none⟩) (Kd.R_far (p := ⟨gb639, 5, none⟩) (Kd.R_far (p := ⟨gb639, 4, none⟩) (Kd.R_far (p := ⟨gb639, 3, none⟩) (Kd.R_far (p := ⟨gb639, 2, none⟩) (Kd.R_far (p := ⟨gb639, 1, none⟩) (Kd.R_far (p := ⟨gb639, 0, none⟩) (Kd.R_types HO_7.out BK639.out (by decide)) (fun _ hk => hk.2) (.int .i64 t626)) (fun _ hk => hk.2) (.bool t627)) (fun _ hk => hk.2) (.bool t628)) (fun _ hk => hk.2) (.int .i64 t629)) (fun _ hk => hk.2) (.int .u8 t630)) (fun _ hk => hk.2) (.int .u8 t631)) (fun _ hk => hk.2) (.int .u8 t632)) (fun _ hk => hk.2) (.int .u8 t633)) (fun _ hk => hk.2) (.int .u8 t634)) (fun _ hk => hk.2) (.int .u8 t635)) (fun _ hk => hk.2) (.int .u8 t636)) (fun _ hk => hk.2) (.int .u8 t637)) (fun _ hk => trivial)⟩, ⟨by (with_reducible repeat (first | refine blk_drewN ?_ _ | refine blk_drew ?_ | refine blk_alloc ?_ _)); refine blk_far ?_ NB602_639.out _; (with_reducible repeat (first | refine blk_drewN ?_ _ | refine blk_drew ?_ | refine blk_alloc ?_ _)); refine blk_far ?_ NB602_639.out _; (with_reducible repeat (first | refine blk_drewN ?_ _ | refine blk_drew ?_ | refine blk_alloc ?_ _)); refine blk_far ?_ NB602_639.out _; (with_reducible repeat (first | refine blk_drewN ?_ _ | refine blk_drew ?_ | refine blk_alloc ?_ _)); refine blk_far ?_ NB602_639.out _; (with_reducible repeat (first | refine blk_drewN ?_ _ | refine blk_drew ?_ | refine blk_alloc ?_ _)); refine blk_far ?_ NB602_639.out _; (with_reducible repeat (first | refine blk_drewN ?_ _ | refine blk_drew ?_ | refine blk_alloc ?_ _)); refine blk_far ?_ NB602_639.out _; (with_reducible repeat (first | refine blk_drewN ?_ _ | refine blk_drew ?_ | refine blk_alloc ?_ _)); refine blk_far ?_ NB602_639.out _; (with_reducible repeat (first | refine blk_drewN ?_ _ | refine blk_drew ?_ | refine blk_alloc ?_ _)); refine blk_far ?_ NB602_639.out _; (with_reducible repeat (first | refine blk_drewN ?_ _ | refine blk_drew ?_ | refine blk_alloc ?_ _)); refine blk_far ?_ NB602_639.out _; (with_reducible repeat (first | refine blk_drewN ?_ _ | refine blk_drew ?_ | refine blk_alloc ?_ _)); refine blk_far ?_ NB602_639.out _; (with_reducible repeat (first | refine blk_drewN ?_ _ | refine blk_drew ?_ | refine blk_alloc ?_ _)); refine blk_far ?_ NB602_639.out _; (with_reducible repeat (first | refine blk_drewN ?_ _ | refine blk_drew ?_ | refine blk_alloc ?_ _)); refine blk_far ?_ NB602_639.out _; (with_reducible repeat (first | refine blk_drewN ?_ _ | refine blk_drew ?_ | refine blk_alloc ?_ _)); exact BK602.out⟩, ⟨by repeat (first | (with_reducible first | exact HB.out | apply below_alloc | apply pw_below_drewN | apply below_drew1 | refine below_set ?_ GE602.out | refine below_set ?_ GE639.out) | exact HB.out)⟩⟩
              ·
               rw [if_neg c56] at H
               exact absurd H (by simp)
            ·
             exact absurd (show a1 < t613 from by omega) (of_decide_eq_false c37b0)
          ·
           rw [if_neg c35] at H
           exact absurd H (by simp)
         ·
          rw [if_neg c34] at H
          exact absurd H (by simp)
        ·
         replace c33 := Bool.eq_false_iff.mpr c33
         subst c33
         have H1 : (magnetolaw04_FieldBack.j2 kj29 a2 t603 t613 a0_0 a0_1 a0_2 a0_3 a0_4 a0_5 a0_6 a0_7 a0_8 a0_9 a0_10 a0_11) = some r := by rw [if_neg (show ¬ (false = true) by decide)] at H; exact H
         clear H
         have H := H1
         clear H1
         have H' := Aside0.mk H
         clear H
         go_wp2
         go_meet
         case rel => exact ⟨_, H', ⟨by have := HJ8.out; have := HJ29.out; first | omega | exact Nat.le_refl _⟩, ⟨by (with_reducible repeat (first | apply Kd.R_alloc | apply Kd.R_drewN | apply Kd.R_drew)); exact HO_7.out⟩, ⟨by (with_reducible repeat (first | refine blk_drewN ?_ _ | refine blk_drew ?_ | refine blk_alloc ?_ _)); exact BK602.out⟩, ⟨by repeat (first | (with_reducible first | exact HB.out | apply below_alloc | apply pw_below_drewN | apply below_drew1 | refine below_set ?_ GE602.out) | exact HB.out)⟩⟩
       case rest =>
        clear HC32
        try clear c1
        try clear c2
        try clear p2
        try clear q2
        try clear c3
        try clear c4
        try clear q4
        try clear c5
        try clear q5
        try clear c6
        try clear c6b0
        try clear c6b1
        try clear p6
        try clear q6
        try clear c8
        try clear c16
        try clear c17
        try clear c18
        try clear c18b0
        try clear c18b1
        try clear c19
        try clear c19b0
        try clear c19b1
        try clear c20
        try clear c20b0
        try clear c20b1
        try clear c21
        try clear c21b0
        try clear c21b1
        try clear c22
        try clear c23
        try clear c23b0
        try clear c23b1
        try clear c24
        try clear c24b0
        try clear c24b1
        try clear c25
        try clear c25b0
        try clear c25b1
        try clear q28
        try clear c29
        try clear c30
        try clear c31
        try clear c31b0
        try clear c33
        try clear c34
        try clear c34b0
        try clear c34b1
        try clear c35
        try clear c35b0
        try clear c35b1
        try clear c37
        try clear c37b0
        try clear c38
        try clear c38b0
        try clear c39
        try clear c39b0
        try clear c39b1
        try clear c40
        try clear c40b0
        try clear c41
        try clear c41b0
        try clear c42
        try clear c42b0
        try clear c42b1
        try clear q43
        try clear c46
        try clear q49
        try clear c52
        try clear c54
        try clear c54b0
        try clear c55
        try clear c55b0
        try clear c56
        try clear c56b0
        try clear c56b1
        try clear q57
        try clear c60
        try clear q63
        try clear p64
        try clear c66
        try clear hcz11_0
        try clear hcz11_1
        try clear hcz11_10
        try clear hcz11_11
        try clear hcz11_2
        try clear hcz11_3
        try clear hcz11_4
        try clear hcz11_5
        try clear hcz11_6
        try clear hcz11_7
        try clear hcz11_8
        try clear hcz11_9
        try clear hcz13_0
        try clear hcz13_1
        try clear hcz13_10
        try clear hcz13_11
        try clear hcz13_2
        try clear hcz13_3
        try clear hcz13_4
        try clear hcz13_5
        try clear hcz13_6
        try clear hcz13_7
        try clear hcz13_8
        try clear hcz13_9
        try clear hcz47_0
        try clear hcz47_1
        try clear hcz47_10
        try clear hcz47_11
        try clear hcz47_2
        try clear hcz47_3
        try clear hcz47_4
        try clear hcz47_5
        try clear hcz47_6
        try clear hcz47_7
        try clear hcz47_8
        try clear hcz47_9
        try clear hcz48_0
        try clear hcz48_1
        try clear hcz48_10
        try clear hcz48_11
        try clear hcz48_2
        try clear hcz48_3
        try clear hcz48_4
        try clear hcz48_5
        try clear hcz48_6
        try clear hcz48_7
        try clear hcz48_8
        try clear hcz48_9
        try clear hcz53_0
        try clear hcz53_1
        try clear hcz53_10
        try clear hcz53_11
        try clear hcz53_2
        try clear hcz53_3
        try clear hcz53_4
        try clear hcz53_5
        try clear hcz53_6
        try clear hcz53_7
        try clear hcz53_8
        try clear hcz53_9
        try clear hcz61_0
        try clear hcz61_1
        try clear hcz61_10
        try clear hcz61_11
        try clear hcz61_2
        try clear hcz61_3
        try clear hcz61_4
        try clear hcz61_5
        try clear hcz61_6
        try clear hcz61_7
        try clear hcz61_8
        try clear hcz61_9
        try clear hcz62_0
        try clear hcz62_1
        try clear hcz62_10
        try clear hcz62_11
        try clear hcz62_2
        try clear hcz62_3
        try clear hcz62_4
        try clear hcz62_5
        try clear hcz62_6
        try clear hcz62_7
        try clear hcz62_8
        try clear hcz62_9
        try clear hcz67_0
        try clear hcz67_1
        try clear hcz67_10
        try clear hcz67_11
        try clear hcz67_2
        try clear hcz67_3
        try clear hcz67_4
        try clear hcz67_5
        try clear hcz67_6
        try clear hcz67_7
        try clear hcz67_8
        try clear hcz67_9
        try clear hfz11_0
        try clear hfz11_1
        try clear hfz11_10
        try clear hfz11_11
        try clear hfz11_2
        try clear hfz11_3
        try clear hfz11_4
        try clear hfz11_5
        try clear hfz11_6
        try clear hfz11_7
        try clear hfz11_8
        try clear hfz11_9
        try clear hfz13_0
        try clear hfz13_1
        try clear hfz13_10
        try clear hfz13_11
        try clear hfz13_2
        try clear hfz13_3
        try clear hfz13_4
        try clear hfz13_5
        try clear hfz13_6
        try clear hfz13_7
        try clear hfz13_8
        try clear hfz13_9
        try clear hfz47_0
        try clear hfz47_1
        try clear hfz47_10
        try clear hfz47_11
        try clear hfz47_2
        try clear hfz47_3
        try clear hfz47_4
        try clear hfz47_5
        try clear hfz47_6
        try clear hfz47_7
        try clear hfz47_8
        try clear hfz47_9
        try clear hfz48_0
        try clear hfz48_1
        try clear hfz48_10
        try clear hfz48_11
        try clear hfz48_2
        try clear hfz48_3
        try clear hfz48_4
        try clear hfz48_5
        try clear hfz48_6
        try clear hfz48_7
        try clear hfz48_8
        try clear hfz48_9
        try clear hfz53_0
        try clear hfz53_1
        try clear hfz53_10
        try clear hfz53_11
        try clear hfz53_2
        try clear hfz53_3
        try clear hfz53_4
        try clear hfz53_5
        try clear hfz53_6
        try clear hfz53_7
        try clear hfz53_8
        try clear hfz53_9
        try clear hfz61_0
        try clear hfz61_1
        try clear hfz61_10
        try clear hfz61_11
        try clear hfz61_2
        try clear hfz61_3
        try clear hfz61_4
        try clear hfz61_5
        try clear hfz61_6
        try clear hfz61_7
        try clear hfz61_8
        try clear hfz61_9
        try clear hfz62_0
        try clear hfz62_1
        try clear hfz62_10
        try clear hfz62_11
        try clear hfz62_2
        try clear hfz62_3
        try clear hfz62_4
        try clear hfz62_5
        try clear hfz62_6
        try clear hfz62_7
        try clear hfz62_8
        try clear hfz62_9
        try clear hfz67_0
        try clear hfz67_1
        try clear hfz67_10
        try clear hfz67_11
        try clear hfz67_2
        try clear hfz67_3
        try clear hfz67_4
        try clear hfz67_5
        try clear hfz67_6
        try clear hfz67_7
        try clear hfz67_8
        try clear hfz67_9
        try clear p2
        try clear p6
        try clear q2
        try clear q28
        try clear q43
        try clear q49
        try clear q57
        try clear q63
        obtain ⟨kq, HA, HJ31, HO_7, BK602, HB⟩ := hcut
        cases kq with
        | zero => exact absurd HA.out (by simp [magnetolaw04_FieldBack.j2])
        | succ kj31 =>
         have H := HA.out
         clear HA
         simp only [magnetolaw04_FieldBack.j2] at H
         have HC68 := Aside0.mk H
         clear H
         have hcz69_0 : wc.cell? ⟨gb602, 0, none⟩ = some (.int .i64 a0_0) := (blk_cell BK602.out 0).trans rfl
         have hcz69_1 : wc.cell? ⟨gb602, 1, none⟩ = some (.bool a0_1) := (blk_cell BK602.out 1).trans rfl
         have hcz69_2 : wc.cell? ⟨gb602, 2, none⟩ = some (.bool a0_2) := (blk_cell BK602.out 2).trans rfl
         have hcz69_3 : wc.cell? ⟨gb602, 3, none⟩ = some (.int .i64 a0_3) := (blk_cell BK602.out 3).trans rfl
         have hcz69_4 : wc.cell? ⟨gb602, 4, none⟩ = some (.int .u8 a0_4) := (blk_cell BK602.out 4).trans rfl
         have hcz69_5 : wc.cell? ⟨gb602, 5, none⟩ = some (.int .u8 a0_5) := (blk_cell BK602.out 5).trans rfl
         have hcz69_6 : wc.cell? ⟨gb602, 6, none⟩ = some (.int .u8 a0_6) := (blk_cell BK602.out 6).trans rfl
         have hcz69_7 : wc.cell? ⟨gb602, 7, none⟩ = some (.int .u8 a0_7) := (blk_cell BK602.out 7).trans rfl
         have hcz69_8 : wc.cell? ⟨gb602, 8, none⟩ = some (.int .u8 a0_8) := (blk_cell BK602.out 8).trans rfl
         have hcz69_9 : wc.cell? ⟨gb602, 9, none⟩ = some (.int .u8 a0_9) := (blk_cell BK602.out 9).trans rfl
         have hcz69_10 : wc.cell? ⟨gb602, 10, none⟩ = some (.int .u8 a0_10) := (blk_cell BK602.out 10).trans rfl
         have hcz69_11 : wc.cell? ⟨gb602, 11, none⟩ = some (.int .u8 a0_11) := (blk_cell BK602.out 11).trans rfl
         have hfz69_0 := blk_frozen BK602.out 0
         have hfz69_1 := blk_frozen BK602.out 1
         have hfz69_2 := blk_frozen BK602.out 2
         have hfz69_3 := blk_frozen BK602.out 3
         have hfz69_4 := blk_frozen BK602.out 4
         have hfz69_5 := blk_frozen BK602.out 5
         have hfz69_6 := blk_frozen BK602.out 6
         have hfz69_7 := blk_frozen BK602.out 7
         have hfz69_8 := blk_frozen BK602.out 8
         have hfz69_9 := blk_frozen BK602.out 9
         have hfz69_10 := blk_frozen BK602.out 10
         have hfz69_11 := blk_frozen BK602.out 11
         go_upto_if 139 with (fail)
         go_cut [17] (fun v17 wc => ∃ (kq : Nat) (x17_67 : Int), v17 = .int .i64 x17_67 ∧ Aside0 (magnetolaw04_FieldBack.j3 kq a2 t603 t613 x17_67 = some r) ∧ Aside0 (kq ≤ kj31) ∧ Aside0 (Kd.R (Kd.int .i64) 3 wc w.heap.size (fun _ => True) (.slice Ao15 t603.length co15) t603) ∧ Aside0 (wc.heap[gb602]? = some (.cells #[.int .i64 a0_0, .bool a0_1, .bool a0_2, .int .i64 a0_3, .int .u8 a0_4, .int .u8 a0_5, .int .u8 a0_6, .int .u8 a0_7, .int .u8 a0_8, .int .u8 a0_9, .int .u8 a0_10, .int .u8 a0_11] 24 (0, 0))) ∧ Aside0 (Below w.heap.size w wc))
         case first =>
          have H := HC68.out
          clear HC68
          by_cases c70 : a0_2 = true
          ·
           subst c70
           have H1 : (magnetolaw04_FieldBack.j3 kj31 a2 t603 t613 0) = some r := by rw [if_pos rfl] at H; exact H
           clear H
           have H := H1
           clear H1
           have H' := Aside0.mk H
           clear H
           go_wp2
           go_meet
           case rel => exact ⟨_, (0), (by first | rfl | (simp; done) | (simp [*]; done)), H', ⟨by have := HJ8.out; have := HJ29.out; have := HJ31.out; first | omega | exact Nat.le_refl _⟩, ⟨by (with_reducible repeat (first | apply Kd.R_alloc | apply Kd.R_drewN | apply Kd.R_drew)); exact HO_7.out⟩, ⟨by (with_reducible repeat (first | refine blk_drewN ?_ _ | refine blk_drew ?_ | refine blk_alloc ?_ _)); exact BK602.out⟩, ⟨by repeat (first | (with_reducible first | exact HB.out | apply below_alloc | apply pw_below_drewN | apply below_drew1 | refine below_set ?_ GE602.out) | exact HB.out)⟩⟩
          ·
           replace c70 := Bool.eq_false_iff.mpr c70
           subst c70
           have H1 : (magnetolaw04_FieldBack.j3 kj31 a2 t603 t613 (wrap64 (8 * a0_3))) = some r := by rw [if_neg (show ¬ (false = true) by decide)] at H; exact H
           clear H
           have H := H1
           clear H1
           have H' := Aside0.mk H
           clear H
           have hcz71_0 : wc.cell? ⟨gb602, 0, none⟩ = some (.int .i64 a0_0) := (blk_cell BK602.out 0).trans rfl
           have hcz71_1 : wc.cell? ⟨gb602, 1, none⟩ = some (.bool a0_1) := (blk_cell BK602.out 1).trans rfl
           have hcz71_2 : wc.cell? ⟨gb602, 2, none⟩ = some (.bool false) := (blk_cell BK602.out 2).trans rfl
           have hcz71_3 : wc.cell? ⟨gb602, 3, none⟩ = some (.int .i64 a0_3) := (blk_cell BK602.out 3).trans rfl
           have hcz71_4 : wc.cell? ⟨gb602, 4, none⟩ = some (.int .u8 a0_4) := (blk_cell BK602.out 4).trans rfl
           have hcz71_5 : wc.cell? ⟨gb602, 5, none⟩ = some (.int .u8 a0_5) := (blk_cell BK602.out 5).trans rfl
           have hcz71_6 : wc.cell? ⟨gb602, 6, none⟩ = some (.int .u8 a0_6) := (blk_cell BK602.out 6).trans rfl
           have hcz71_7 : wc.cell? ⟨gb602, 7, none⟩ = some (.int .u8 a0_7) := (blk_cell BK602.out 7).trans rfl
           have hcz71_8 : wc.cell? ⟨gb602, 8, none⟩ = some (.int .u8 a0_8) := (blk_cell BK602.out 8).trans rfl
           have hcz71_9 : wc.cell? ⟨gb602, 9, none⟩ = some (.int .u8 a0_9) := (blk_cell BK602.out 9).trans rfl
           have hcz71_10 : wc.cell? ⟨gb602, 10, none⟩ = some (.int .u8 a0_10) := (blk_cell BK602.out 10).trans rfl
           have hcz71_11 : wc.cell? ⟨gb602, 11, none⟩ = some (.int .u8 a0_11) := (blk_cell BK602.out 11).trans rfl
           have hfz71_0 := blk_frozen BK602.out 0
           have hfz71_1 := blk_frozen BK602.out 1
           have hfz71_2 := blk_frozen BK602.out 2
           have hfz71_3 := blk_frozen BK602.out 3
           have hfz71_4 := blk_frozen BK602.out 4
           have hfz71_5 := blk_frozen BK602.out 5
           have hfz71_6 := blk_frozen BK602.out 6
           have hfz71_7 := blk_frozen BK602.out 7
           have hfz71_8 := blk_frozen BK602.out 8
           have hfz71_9 := blk_frozen BK602.out 9
           have hfz71_10 := blk_frozen BK602.out 10
           have hfz71_11 := blk_frozen BK602.out 11
           go_wp2
           go_meet
           case rel => exact ⟨_, (wrap64 (8 * a0_3)), (by first | rfl | (simp; done) | (simp [*]; done)), H', ⟨by have := HJ8.out; have := HJ29.out; have := HJ31.out; first | omega | exact Nat.le_refl _⟩, ⟨by (with_reducible repeat (first | apply Kd.R_alloc | apply Kd.R_drewN | apply Kd.R_drew)); exact HO_7.out⟩, ⟨by (with_reducible repeat (first | refine blk_drewN ?_ _ | refine blk_drew ?_ | refine blk_alloc ?_ _)); exact BK602.out⟩, ⟨by repeat (first | (with_reducible first | exact HB.out | apply below_alloc | apply pw_below_drewN | apply below_drew1 | refine below_set ?_ GE602.out) | exact HB.out)⟩⟩
         case rest =>
          clear HC68
          try clear c1
          try clear c2
          try clear p2
          try clear q2
          try clear c3
          try clear c4
          try clear q4
          try clear c5
          try clear q5
          try clear c6
          try clear c6b0
          try clear c6b1
          try clear p6
          try clear q6
          try clear c7
          try clear c8
          try clear c16
          try clear c17
          try clear c18
          try clear c18b0
          try clear c18b1
          try clear c19
          try clear c19b0
          try clear c19b1
          try clear c20
          try clear c20b0
          try clear c20b1
          try clear c21
          try clear c21b0
          try clear c21b1
          try clear c22
          try clear c23
          try clear c23b0
          try clear c23b1
          try clear c24
          try clear c24b0
          try clear c24b1
          try clear c25
          try clear c25b0
          try clear c25b1
          try clear q28
          try clear c29
          try clear c30
          try clear c31
          try clear c31b0
          try clear c33
          try clear c34
          try clear c34b0
          try clear c34b1
          try clear c35
          try clear c35b0
          try clear c35b1
          try clear c37
          try clear c37b0
          try clear c38
          try clear c38b0
          try clear c39
          try clear c39b0
          try clear c39b1
          try clear c40
          try clear c40b0
          try clear c41
          try clear c41b0
          try clear c42
          try clear c42b0
          try clear c42b1
          try clear q43
          try clear c46
          try clear q49
          try clear c52
          try clear c54
          try clear c54b0
          try clear c55
          try clear c55b0
          try clear c56
          try clear c56b0
          try clear c56b1
          try clear q57
          try clear c60
          try clear q63
          try clear p64
          try clear c66
          try clear c70
          try clear hcz11_0
          try clear hcz11_1
          try clear hcz11_10
          try clear hcz11_11
          try clear hcz11_2
          try clear hcz11_3
          try clear hcz11_4
          try clear hcz11_5
          try clear hcz11_6
          try clear hcz11_7
          try clear hcz11_8
          try clear hcz11_9
          try clear hcz13_0
          try clear hcz13_1
          try clear hcz13_10
          try clear hcz13_11
          try clear hcz13_2
          try clear hcz13_3
          try clear hcz13_4
          try clear hcz13_5
          try clear hcz13_6
          try clear hcz13_7
          try clear hcz13_8
          try clear hcz13_9
          try clear hcz47_0
          try clear hcz47_1
          try clear hcz47_10
          try clear hcz47_11
          try clear hcz47_2
          try clear hcz47_3
          try clear hcz47_4
          try clear hcz47_5
          try clear hcz47_6
          try clear hcz47_7
          try clear hcz47_8
          try clear hcz47_9
          try clear hcz48_0
          try clear hcz48_1
          try clear hcz48_10
          try clear hcz48_11
          try clear hcz48_2
          try clear hcz48_3
          try clear hcz48_4
          try clear hcz48_5
          try clear hcz48_6
          try clear hcz48_7
          try clear hcz48_8
          try clear hcz48_9
          try clear hcz53_0
          try clear hcz53_1
          try clear hcz53_10
          try clear hcz53_11
          try clear hcz53_2
          try clear hcz53_3
          try clear hcz53_4
          try clear hcz53_5
          try clear hcz53_6
          try clear hcz53_7
          try clear hcz53_8
          try clear hcz53_9
          try clear hcz61_0
          try clear hcz61_1
          try clear hcz61_10
          try clear hcz61_11
          try clear hcz61_2
          try clear hcz61_3
          try clear hcz61_4
          try clear hcz61_5
          try clear hcz61_6
          try clear hcz61_7
          try clear hcz61_8
          try clear hcz61_9
          try clear hcz62_0
          try clear hcz62_1
          try clear hcz62_10
          try clear hcz62_11
          try clear hcz62_2
          try clear hcz62_3
          try clear hcz62_4
          try clear hcz62_5
          try clear hcz62_6
          try clear hcz62_7
          try clear hcz62_8
          try clear hcz62_9
          try clear hcz67_0
          try clear hcz67_1
          try clear hcz67_10
          try clear hcz67_11
          try clear hcz67_2
          try clear hcz67_3
          try clear hcz67_4
          try clear hcz67_5
          try clear hcz67_6
          try clear hcz67_7
          try clear hcz67_8
          try clear hcz67_9
          try clear hcz69_0
          try clear hcz69_1
          try clear hcz69_10
          try clear hcz69_11
          try clear hcz69_2
          try clear hcz69_3
          try clear hcz69_4
          try clear hcz69_5
          try clear hcz69_6
          try clear hcz69_7
          try clear hcz69_8
          try clear hcz69_9
          try clear hcz71_0
          try clear hcz71_1
          try clear hcz71_10
          try clear hcz71_11
          try clear hcz71_2
          try clear hcz71_3
          try clear hcz71_4
          try clear hcz71_5
          try clear hcz71_6
          try clear hcz71_7
          try clear hcz71_8
          try clear hcz71_9
          try clear hfz11_0
          try clear hfz11_1
          try clear hfz11_10
          try clear hfz11_11
          try clear hfz11_2
          try clear hfz11_3
          try clear hfz11_4
          try clear hfz11_5
          try clear hfz11_6
          try clear hfz11_7
          try clear hfz11_8
          try clear hfz11_9
          try clear hfz13_0
          try clear hfz13_1
          try clear hfz13_10
          try clear hfz13_11
          try clear hfz13_2
          try clear hfz13_3
          try clear hfz13_4
          try clear hfz13_5
          try clear hfz13_6
          try clear hfz13_7
          try clear hfz13_8
          try clear hfz13_9
          try clear hfz47_0
          try clear hfz47_1
          try clear hfz47_10
          try clear hfz47_11
          try clear hfz47_2
          try clear hfz47_3
          try clear hfz47_4
          try clear hfz47_5
          try clear hfz47_6
          try clear hfz47_7
          try clear hfz47_8
          try clear hfz47_9
          try clear hfz48_0
          try clear hfz48_1
          try clear hfz48_10
          try clear hfz48_11
          try clear hfz48_2
          try clear hfz48_3
          try clear hfz48_4
          try clear hfz48_5
          try clear hfz48_6
          try clear hfz48_7
          try clear hfz48_8
          try clear hfz48_9
          try clear hfz53_0
          try clear hfz53_1
          try clear hfz53_10
          try clear hfz53_11
          try clear hfz53_2
          try clear hfz53_3
          try clear hfz53_4
          try clear hfz53_5
          try clear hfz53_6
          try clear hfz53_7
          try clear hfz53_8
          try clear hfz53_9
          try clear hfz61_0
          try clear hfz61_1
          try clear hfz61_10
          try clear hfz61_11
          try clear hfz61_2
          try clear hfz61_3
          try clear hfz61_4
          try clear hfz61_5
          try clear hfz61_6
          try clear hfz61_7
          try clear hfz61_8
          try clear hfz61_9
          try clear hfz62_0
          try clear hfz62_1
          try clear hfz62_10
          try clear hfz62_11
          try clear hfz62_2
          try clear hfz62_3
          try clear hfz62_4
          try clear hfz62_5
          try clear hfz62_6
          try clear hfz62_7
          try clear hfz62_8
          try clear hfz62_9
          try clear hfz67_0
          try clear hfz67_1
          try clear hfz67_10
          try clear hfz67_11
          try clear hfz67_2
          try clear hfz67_3
          try clear hfz67_4
          try clear hfz67_5
          try clear hfz67_6
          try clear hfz67_7
          try clear hfz67_8
          try clear hfz67_9
          try clear hfz69_0
          try clear hfz69_1
          try clear hfz69_10
          try clear hfz69_11
          try clear hfz69_2
          try clear hfz69_3
          try clear hfz69_4
          try clear hfz69_5
          try clear hfz69_6
          try clear hfz69_7
          try clear hfz69_8
          try clear hfz69_9
          try clear hfz71_0
          try clear hfz71_1
          try clear hfz71_10
          try clear hfz71_11
          try clear hfz71_2
          try clear hfz71_3
          try clear hfz71_4
          try clear hfz71_5
          try clear hfz71_6
          try clear hfz71_7
          try clear hfz71_8
          try clear hfz71_9
          try clear p2
          try clear p6
          try clear p64
          try clear q2
          try clear q28
          try clear q4
          try clear q43
          try clear q49
          try clear q5
          try clear q57
          try clear q6
          try clear q63
          obtain ⟨kq, x17_67, rfl, HA, HJ67, HO_7, BK602, HB⟩ := hcut
          cases kq with
          | zero => exact absurd HA.out (by simp [magnetolaw04_FieldBack.j3])
          | succ kj67 =>
           have H := HA.out
           clear HA
           simp only [magnetolaw04_FieldBack.j3] at H
           by_cases c72 : (wrap64 (x17_67 + 15)) = 0
           ·
            rw [if_pos c72] at H
            exact absurd H (by simp)
           ·
            rw [if_neg c72] at H
            have c72b0 : ((wrap64 (x17_67 + 15)) == 0) = false := beq_eq_false_iff_ne.mpr c72
            have c72b1 : ((wrap64 (x17_67 + 15)) != 0) = true := bne_iff_ne.mpr c72
            have HC73 := Aside0.mk H
            clear H
            go_upto_region 18 with (fail)
            go_cut [163] (fun v163 wc => ∃ (kq : Nat) (x163_72 : Bool), v163 = .bool x163_72 ∧ Aside0 (magnetolaw04_FieldBack.j4 kq t603 (wrap64 ((wrap64 (t613 - x17_67)) + (Int.tmod (wrap64 ((Int.tmod a2 (wrap64 (x17_67 + 15))) + (wrap64 (x17_67 + 15)))) (wrap64 (x17_67 + 15))))) x163_72 = some r) ∧ Aside0 (kq ≤ kj67) ∧ Aside0 (Kd.R (Kd.int .i64) 3 wc w.heap.size (fun _ => True) (.slice Ao15 t603.length co15) t603) ∧ Aside0 (wc.heap[gb602]? = some (.cells #[.int .i64 a0_0, .bool a0_1, .bool a0_2, .int .i64 a0_3, .int .u8 a0_4, .int .u8 a0_5, .int .u8 a0_6, .int .u8 a0_7, .int .u8 a0_8, .int .u8 a0_9, .int .u8 a0_10, .int .u8 a0_11] 24 (0, 0))) ∧ Aside0 (Below w.heap.size w wc))
            case first =>
             have H := HC73.out
             clear HC73
             by_cases c74 : (wrap64 ((wrap64 (t613 - x17_67)) + (Int.tmod (wrap64 ((Int.tmod a2 (wrap64 (x17_67 + 15))) + (wrap64 (x17_67 + 15)))) (wrap64 (x17_67 + 15))))) < 0
             ·
              rw [if_pos c74] at H
              exact absurd H (by simp)
             ·
              rw [if_neg c74] at H
              have c74b0 : decide ((wrap64 ((wrap64 (t613 - x17_67)) + (Int.tmod (wrap64 ((Int.tmod a2 (wrap64 (x17_67 + 15))) + (wrap64 (x17_67 + 15)))) (wrap64 (x17_67 + 15))))) < 0) = false := decide_eq_false c74
              clear c74
              (first | rw [c74b0] | (simp only [i64_w, i32_w]; rw [c74b0]) | skip)
              have H' := Aside0.mk H
              clear H
              go_wp2
              go_meet
              case rel => exact ⟨_, (decide ((wrap64 ((wrap64 (t613 - x17_67)) + (Int.tmod (wrap64 ((Int.tmod a2 (wrap64 (x17_67 + 15))) + (wrap64 (x17_67 + 15)))) (wrap64 (x17_67 + 15))))) ≥ (t603.length : Int))), (by first | rfl | (simp; done) | (simp [*]; done)), H', ⟨by have := HJ8.out; have := HJ29.out; have := HJ31.out; have := HJ67.out; first | omega | exact Nat.le_refl _⟩, ⟨by (with_reducible repeat (first | apply Kd.R_alloc | apply Kd.R_drewN | apply Kd.R_drew)); exact HO_7.out⟩, ⟨by (with_reducible repeat (first | refine blk_drewN ?_ _ | refine blk_drew ?_ | refine blk_alloc ?_ _)); exact BK602.out⟩, ⟨by repeat (first | (with_reducible first | exact HB.out | apply below_alloc | apply pw_below_drewN | apply below_drew1 | refine below_set ?_ GE602.out) | exact HB.out)⟩⟩
            case rest =>
             clear HC73
             try clear c1
             try clear c2
             try clear p2
             try clear q2
             try clear c3
             try clear c4
             try clear q4
             try clear c5
             try clear q5
             try clear c6
             try clear c6b0
             try clear c6b1
             try clear p6
             try clear q6
             try clear c7
             try clear c8
             try clear c16
             try clear c17
             try clear c18
             try clear c18b0
             try clear c18b1
             try clear c19
             try clear c19b0
             try clear c19b1
             try clear c20
             try clear c20b0
             try clear c20b1
             try clear c21
             try clear c21b0
             try clear c21b1
             try clear c22
             try clear c23
             try clear c23b0
             try clear c23b1
             try clear c24
             try clear c24b0
             try clear c24b1
             try clear c25
             try clear c25b0
             try clear c25b1
             try clear q28
             try clear c29
             try clear c30
             try clear c31
             try clear c31b0
             try clear c33
             try clear c34
             try clear c34b0
             try clear c34b1
             try clear c35
             try clear c35b0
             try clear c35b1
             try clear c37
             try clear c37b0
             try clear c38
             try clear c38b0
             try clear c39
             try clear c39b0
             try clear c39b1
             try clear c40
             try clear c40b0
             try clear c41
             try clear c41b0
             try clear c42
             try clear c42b0
             try clear c42b1
             try clear q43
             try clear c46
             try clear q49
             try clear c52
             try clear c54
             try clear c54b0
             try clear c55
             try clear c55b0
             try clear c56
             try clear c56b0
             try clear c56b1
             try clear q57
             try clear c60
             try clear q63
             try clear p64
             try clear c66
             try clear c70
             try clear c72
             try clear c72b0
             try clear c72b1
             try clear c74
             try clear c74b0
             try clear hcz11_0
             try clear hcz11_1
             try clear hcz11_10
             try clear hcz11_11
             try clear hcz11_2
             try clear hcz11_3
             try clear hcz11_4
             try clear hcz11_5
             try clear hcz11_6
             try clear hcz11_7
             try clear hcz11_8
             try clear hcz11_9
             try clear hcz13_0
             try clear hcz13_1
             try clear hcz13_10
             try clear hcz13_11
             try clear hcz13_2
             try clear hcz13_3
             try clear hcz13_4
             try clear hcz13_5
             try clear hcz13_6
             try clear hcz13_7
             try clear hcz13_8
             try clear hcz13_9
             try clear hcz47_0
             try clear hcz47_1
             try clear hcz47_10
             try clear hcz47_11
             try clear hcz47_2
             try clear hcz47_3
             try clear hcz47_4
             try clear hcz47_5
             try clear hcz47_6
             try clear hcz47_7
             try clear hcz47_8
             try clear hcz47_9
             try clear hcz48_0
             try clear hcz48_1
             try clear hcz48_10
             try clear hcz48_11
             try clear hcz48_2
             try clear hcz48_3
             try clear hcz48_4
             try clear hcz48_5
             try clear hcz48_6
             try clear hcz48_7
             try clear hcz48_8
             try clear hcz48_9
             try clear hcz53_0
             try clear hcz53_1
             try clear hcz53_10
             try clear hcz53_11
             try clear hcz53_2
             try clear hcz53_3
             try clear hcz53_4
             try clear hcz53_5
             try clear hcz53_6
             try clear hcz53_7
             try clear hcz53_8
             try clear hcz53_9
             try clear hcz61_0
             try clear hcz61_1
             try clear hcz61_10
             try clear hcz61_11
             try clear hcz61_2
             try clear hcz61_3
             try clear hcz61_4
             try clear hcz61_5
             try clear hcz61_6
             try clear hcz61_7
             try clear hcz61_8
             try clear hcz61_9
             try clear hcz62_0
             try clear hcz62_1
             try clear hcz62_10
             try clear hcz62_11
             try clear hcz62_2
             try clear hcz62_3
             try clear hcz62_4
             try clear hcz62_5
             try clear hcz62_6
             try clear hcz62_7
             try clear hcz62_8
             try clear hcz62_9
             try clear hcz67_0
             try clear hcz67_1
             try clear hcz67_10
             try clear hcz67_11
             try clear hcz67_2
             try clear hcz67_3
             try clear hcz67_4
             try clear hcz67_5
             try clear hcz67_6
             try clear hcz67_7
             try clear hcz67_8
             try clear hcz67_9
             try clear hcz69_0
             try clear hcz69_1
             try clear hcz69_10
             try clear hcz69_11
             try clear hcz69_2
             try clear hcz69_3
             try clear hcz69_4
             try clear hcz69_5
             try clear hcz69_6
             try clear hcz69_7
             try clear hcz69_8
             try clear hcz69_9
             try clear hcz71_0
             try clear hcz71_1
             try clear hcz71_10
             try clear hcz71_11
             try clear hcz71_2
             try clear hcz71_3
             try clear hcz71_4
             try clear hcz71_5
             try clear hcz71_6
             try clear hcz71_7
             try clear hcz71_8
             try clear hcz71_9
             try clear hfz11_0
             try clear hfz11_1
             try clear hfz11_10
             try clear hfz11_11
             try clear hfz11_2
             try clear hfz11_3
             try clear hfz11_4
             try clear hfz11_5
             try clear hfz11_6
             try clear hfz11_7
             try clear hfz11_8
             try clear hfz11_9
             try clear hfz13_0
             try clear hfz13_1
             try clear hfz13_10
             try clear hfz13_11
             try clear hfz13_2
             try clear hfz13_3
             try clear hfz13_4
             try clear hfz13_5
             try clear hfz13_6
             try clear hfz13_7
             try clear hfz13_8
             try clear hfz13_9
             try clear hfz47_0
             try clear hfz47_1
             try clear hfz47_10
             try clear hfz47_11
             try clear hfz47_2
             try clear hfz47_3
             try clear hfz47_4
             try clear hfz47_5
             try clear hfz47_6
             try clear hfz47_7
             try clear hfz47_8
             try clear hfz47_9
             try clear hfz48_0
             try clear hfz48_1
             try clear hfz48_10
             try clear hfz48_11
             try clear hfz48_2
             try clear hfz48_3
             try clear hfz48_4
             try clear hfz48_5
             try clear hfz48_6
             try clear hfz48_7
             try clear hfz48_8
             try clear hfz48_9
             try clear hfz53_0
             try clear hfz53_1
             try clear hfz53_10
             try clear hfz53_11
             try clear hfz53_2
             try clear hfz53_3
             try clear hfz53_4
             try clear hfz53_5
             try clear hfz53_6
             try clear hfz53_7
             try clear hfz53_8
             try clear hfz53_9
             try clear hfz61_0
             try clear hfz61_1
             try clear hfz61_10
             try clear hfz61_11
             try clear hfz61_2
             try clear hfz61_3
             try clear hfz61_4
             try clear hfz61_5
             try clear hfz61_6
             try clear hfz61_7
             try clear hfz61_8
             try clear hfz61_9
             try clear hfz62_0
             try clear hfz62_1
             try clear hfz62_10
             try clear hfz62_11
             try clear hfz62_2
             try clear hfz62_3
             try clear hfz62_4
             try clear hfz62_5
             try clear hfz62_6
             try clear hfz62_7
             try clear hfz62_8
             try clear hfz62_9
             try clear hfz67_0
             try clear hfz67_1
             try clear hfz67_10
             try clear hfz67_11
             try clear hfz67_2
             try clear hfz67_3
             try clear hfz67_4
             try clear hfz67_5
             try clear hfz67_6
             try clear hfz67_7
             try clear hfz67_8
             try clear hfz67_9
             try clear hfz69_0
             try clear hfz69_1
             try clear hfz69_10
             try clear hfz69_11
             try clear hfz69_2
             try clear hfz69_3
             try clear hfz69_4
             try clear hfz69_5
             try clear hfz69_6
             try clear hfz69_7
             try clear hfz69_8
             try clear hfz69_9
             try clear hfz71_0
             try clear hfz71_1
             try clear hfz71_10
             try clear hfz71_11
             try clear hfz71_2
             try clear hfz71_3
             try clear hfz71_4
             try clear hfz71_5
             try clear hfz71_6
             try clear hfz71_7
             try clear hfz71_8
             try clear hfz71_9
             try clear p2
             try clear p6
             try clear p64
             try clear q2
             try clear q28
             try clear q4
             try clear q43
             try clear q49
             try clear q5
             try clear q57
             try clear q6
             try clear q63
             obtain ⟨kq, x163_72, rfl, HA, HJ72, HO_7, BK602, HB⟩ := hcut
             cases kq with
             | zero => exact absurd HA.out (by simp [magnetolaw04_FieldBack.j4])
             | succ kj72 =>
              have H := HA.out
              clear HA
              simp only [magnetolaw04_FieldBack.j4] at H
              by_cases c75 : x163_72 = true
              ·
               subst c75
               have H1 : (none) = some r := by rw [if_pos rfl] at H; exact H
               clear H
               have H := H1
               clear H1
               exact absurd H (by simp)
              ·
               replace c75 := Bool.eq_false_iff.mpr c75
               subst c75
               have H1 : (if 0 ≤ (wrap64 ((wrap64 (t613 - x17_67)) + (Int.tmod (wrap64 ((Int.tmod a2 (wrap64 (x17_67 + 15))) + (wrap64 (x17_67 + 15)))) (wrap64 (x17_67 + 15))))) then (if (wrap64 ((wrap64 (t613 - x17_67)) + (Int.tmod (wrap64 ((Int.tmod a2 (wrap64 (x17_67 + 15))) + (wrap64 (x17_67 + 15)))) (wrap64 (x17_67 + 15))))) < (t603.length : Int) then ((field_Right.f kj72 (t603.set ((wrap64 ((wrap64 (t613 - x17_67)) + (Int.tmod (wrap64 ((Int.tmod a2 (wrap64 (x17_67 + 15))) + (wrap64 (x17_67 + 15)))) (wrap64 (x17_67 + 15))))) : Int).toNat (wrap64 (1 - (rd t603 (wrap64 ((wrap64 (t613 - x17_67)) + (Int.tmod (wrap64 ((Int.tmod a2 (wrap64 (x17_67 + 15))) + (wrap64 (x17_67 + 15)))) (wrap64 (x17_67 + 15)))))))))).bind fun bt642 => (if bt642.2 = 0 then (if bt642.1 = true then (none) else ((magnetolaw04_awake.f kj72).bind fun t644 => (some t644))) else (none))) else (none)) else (none)) = some r := by rw [if_neg (show ¬ (false = true) by decide)] at H; exact H
               clear H
               have H := H1
               clear H1
               obtain ⟨ji76, hji76⟩ : ∃ j_ : Int, (wrap64 ((wrap64 (t613 - x17_67)) + (Int.tmod (wrap64 ((Int.tmod a2 (wrap64 (x17_67 + 15))) + (wrap64 (x17_67 + 15)))) (wrap64 (x17_67 + 15))))) = j_ := ⟨_, rfl⟩
               replace H : (if 0 ≤ (ji76) then (if (ji76) < (t603.length : Int) then ((field_Right.f kj72 (t603.set ((ji76) : Int).toNat (wrap64 (1 - (rd t603 (ji76)))))).bind fun bt642 => (if bt642.2 = 0 then (if bt642.1 = true then (none) else ((magnetolaw04_awake.f kj72).bind fun t644 => (some t644))) else (none))) else (none)) else (none)) = some r := by first | (rw [hji76] at H; exact H) | (simp only [hji76] at H ⊢; exact H)
               have hji76w : (IntKind.i64.wrap ((wrap64 (t613 - x17_67)) + (Int.tmod (wrap64 ((Int.tmod a2 (wrap64 (x17_67 + 15))) + (wrap64 (x17_67 + 15)))) (wrap64 (x17_67 + 15))))) = ji76 := (i64_w _).trans hji76
               by_cases c77 : 0 ≤ (ji76)
               ·
                rw [if_pos c77] at H
                have c77b0 : decide (0 ≤ (ji76)) = true := decide_eq_true c77
                clear c77
                by_cases c78 : (ji76) < (t603.length : Int)
                ·
                 rw [if_pos c78] at H
                 have c78b0 : decide ((ji76) < (t603.length : Int)) = true := decide_eq_true c78
                 clear c78
                 obtain ⟨y641, hy641⟩ : ∃ y_ : List Int, y_ = (t603.set ((ji76) : Int).toNat (wrap64 (1 - (rd t603 (ji76))))) := ⟨_, rfl⟩
                 replace H : ((field_Right.f kj72 y641).bind fun bt642 => (if bt642.2 = 0 then (if bt642.1 = true then (none) else ((magnetolaw04_awake.f kj72).bind fun t644 => (some t644))) else (none))) = some r := by first | (rw [hy641]; with_reducible exact H) | (have H2_ := (Option.bind_some _ _).symm.trans H; rw [hy641]; with_reducible exact H2_) | (have H2_ := (Option.bind_some _ _).symm.trans H; with_reducible exact H2_) | with_reducible exact H | (rw [hy641]; exact H) | exact H
                 have Ny641 := Aside0.mk hy641
                 clear hy641
                 replace H := Option.bind_eq_some_iff.mp H
                 obtain ⟨⟨t642, t643⟩, A800, H⟩ := H
                 replace H : (if t643 = 0 then (if t642 = true then (none) else ((magnetolaw04_awake.f kj72).bind fun t644 => (some t644))) else (none)) = some r := H
                 have A80 := Aside0.mk A800
                 clear A800
                 by_cases c81 : t643 = 0
                 ·
                  rw [if_pos c81] at H
                  have c81b0 : (t643 == 0) = true := beq_iff_eq.mpr c81
                  have c81b1 : (t643 != 0) = false := bne_eq_false_iff_eq.mpr c81
                  clear c81
                  by_cases c82 : t642 = true
                  ·
                   subst c82
                   have H1 : (none) = some r := by rw [if_pos rfl] at H; exact H
                   clear H
                   have H := H1
                   clear H1
                   exact absurd H (by simp)
                  ·
                   replace c82 := Bool.eq_false_iff.mpr c82
                   subst c82
                   have H1 : ((magnetolaw04_awake.f kj72).bind fun t644 => (some t644)) = some r := by rw [if_neg (show ¬ (false = true) by decide)] at H; exact H
                   clear H
                   have H := H1
                   clear H1
                   replace H := Option.bind_eq_some_iff.mp H
                   obtain ⟨t644, A830, H⟩ := H
                   replace H : (some t644) = some r := H
                   have A83 := Aside0.mk A830
                   clear A830
                   obtain rfl := Option.some.inj H
                   have p640 : 0 ≤ ((ji76) : Int) := of_decide_eq_true (by first | (with_reducible assumption) | assumption)
                   have q640 : (ji76) < (t603.length : Int) := of_decide_eq_true (by first | (with_reducible assumption) | assumption)
                   obtain ⟨ad640, e640, hx640_0⟩ := Kd.at_int (Kd.R_reads' HO_7.out).2.2 (ji76) p640 q640
                   cases e640
                   replace p640 := eq_true p640
                   replace q640 := eq_true q640
                   have p79 : 0 ≤ ((ji76) : Int) := of_decide_eq_true (by first | (with_reducible assumption) | assumption)
                   have q79 : ((ji76) : Int) < ((t603.length : Int) : Int) := of_decide_eq_true (by first | (with_reducible assumption) | assumption)
                   obtain ⟨go79, co79, eo79, gb79, gl79, cl79, HG79⟩ := Kd.R_form HO_7.out (by omega)
                   (first | cases eo79 | (injection eo79 with ea_ en_ ec_; (first | subst ea_ | (injection ea_ with ea_; subst ea_)); subst ec_; clear en_))
                   have GB79 := Aside0.mk gb79
                   have GG79 := Aside0.mk HG79
                   clear gb79 gl79 HG79
                   (first | simp only [add_plain] at hx640_0 | skip)
                   obtain ⟨hx79_0, hf79_0⟩ := Kd.R_celln 0 HO_7.out ((ji76) : Int) p79 q79
                   replace p79 := eq_true p79
                   replace q79 := eq_true q79
                   have HP84 := Kd.R_putg HO_7.out ((ji76) : Int) (wrap64 (1 - (rd t603 (ji76))))
                   go_wp2_with (first | ((with_reducible refine gate_store (t := 3) (p := 171) rfl ?_); refine store_event (t := 3) (p := 171) (v := ?vo_w85) (w1 := (wc.setCell ⟨go79, ((ji76) : Int).toNat, none⟩ (.int .i64 (wrap64 (1 - (rd t603 (ji76))))))) ?hg ?ho ?hn ?hr ?_; (case ho => rfl); (case hg => rfl); (case hn => rfl); (case hr => first | (go_simp; done) | (go_simp; rfl)); intro w85 hw; have hg : wc.grownBy w85 (some go79) := (by rw [hw]; exact HP84.2); have hp_ : Kd.R (Kd.int .i64) 3 w85 w.heap.size (fun _ => True) (.slice (some ⟨go79, 0, none⟩) t603.length co15) y641 := (by rw [hw, Ny641.out]; exact HP84.1); clear HP84; have n0_ := Aside0.mk (hp_); have n1_ := Aside0.mk (blk_grown (g := gb602) (o := .cells #[.int .i64 a0_0, .bool a0_1, .bool a0_2, .int .i64 a0_3, .int .u8 a0_4, .int .u8 a0_5, .int .u8 a0_6, .int .u8 a0_7, .int .u8 a0_8, .int .u8 a0_9, .int .u8 a0_10, .int .u8 a0_11] 24 (0, 0)) (by (with_reducible repeat (first | refine blk_drewN ?_ _ | refine blk_drew ?_ | refine blk_alloc ?_ _)); exact BK602.out) hg (Kd.R_ne HO_7.out BK602.out (by decide))); have n2_ := Aside0.mk ((by rw [hw]; exact below_set (HB.out) GB79.out : Below w.heap.size w w85)); clear HO_7; clear BK602; clear HB; have HO_7 := n0_; have BK602 := n1_; have HB := n2_; clear n0_ n1_ n2_; clear hg hw hp_) | ((with_reducible refine gate_callee (f := 30) rfl ?_); refine goesL_ (some 174) rfl rfl Try.func30 (by kernel_rfl) rfl #[.slice (some ⟨go79, 0, none⟩) y641.length co15] rfl (by (try simp only [List.map_toArray, List.map_cons, List.map_nil]); first | done | (rw [show y641.length = t603.length from (Kd.R_reads' HO_7.out).1.symm] <;> rfl) | rfl | (simp only [List.length_drop, List.length_take]; rfl)) ?_; (with_reducible refine (field_Right.calls kj72 _ _ y641 false t643 _ ?side1 ?side2 A80.out).mono ?_); (case side1 => repeat (first | exact (Kd.R_reads' HO_7.out).2.2 | (with_reducible refine Kd.C_alloc ?_ _) | (with_reducible refine Kd.C_drewN ?_ _) | (with_reducible refine Kd.C_drew ?_))); (case side2 => rw [show y641.length = t603.length from (Kd.R_reads' HO_7.out).1.symm]; exact (Kd.R_reads' HO_7.out).2.1); rintro e w86 ⟨rfl, hb⟩; refine ⟨_, rfl, ?_⟩; have n0_ := Aside0.mk (Kd.R_below (by (with_reducible repeat (first | apply Kd.R_alloc | apply Kd.R_drewN | apply Kd.R_drew)); exact HO_7.out) hb); have n1_ := Aside0.mk (blk_below (g := gb602) (o := .cells #[.int .i64 a0_0, .bool a0_1, .bool a0_2, .int .i64 a0_3, .int .u8 a0_4, .int .u8 a0_5, .int .u8 a0_6, .int .u8 a0_7, .int .u8 a0_8, .int .u8 a0_9, .int .u8 a0_10, .int .u8 a0_11] 24 (0, 0)) (by (with_reducible repeat (first | refine blk_drewN ?_ _ | refine blk_drew ?_ | refine blk_alloc ?_ _)); exact BK602.out) hb); have n2_ := Aside0.mk (below_step (by repeat (first | (with_reducible first | exact HB.out | apply below_alloc | apply pw_below_drewN | apply below_drew1 | refine below_set ?_ GE602.out) | exact HB.out)) hb); clear HO_7; clear BK602; clear HB; have HO_7 := n0_; have BK602 := n1_; have HB := n2_; clear n0_ n1_ n2_; (try clear hb); (try clear hb2); (try clear hk); (try clear hi)) | (go_at_call 19; (with_reducible refine (magnetolaw04_awake.calls kj72  t644 _ A83.out).mono ?_); rintro e w87 ⟨rfl, hb⟩; have n0_ := Aside0.mk (Kd.R_below (by (with_reducible repeat (first | apply Kd.R_alloc | apply Kd.R_drewN | apply Kd.R_drew)); exact HO_7.out) hb); have n1_ := Aside0.mk (blk_below (g := gb602) (o := .cells #[.int .i64 a0_0, .bool a0_1, .bool a0_2, .int .i64 a0_3, .int .u8 a0_4, .int .u8 a0_5, .int .u8 a0_6, .int .u8 a0_7, .int .u8 a0_8, .int .u8 a0_9, .int .u8 a0_10, .int .u8 a0_11] 24 (0, 0)) (by (with_reducible repeat (first | refine blk_drewN ?_ _ | refine blk_drew ?_ | refine blk_alloc ?_ _)); exact BK602.out) hb); have n2_ := Aside0.mk (below_step (by repeat (first | (with_reducible first | exact HB.out | apply below_alloc | apply pw_below_drewN | apply below_drew1 | refine below_set ?_ GE602.out) | exact HB.out)) hb); clear HO_7; clear BK602; clear HB; have HO_7 := n0_; have BK602 := n1_; have HB := n2_; clear n0_ n1_ n2_; (try clear hb); (try clear hb2); (try clear hk); (try clear hi)))
                   go_ret
                   exact ⟨by first | rfl | (simp [errW_none, errW_some] <;> rfl) | (simp only [← hji76]; first | rfl | (simp [errW_none, errW_some] <;> rfl)) | (simp [*, errW_none, errW_some] <;> rfl), by repeat (first | (with_reducible first | exact HB.out | apply below_alloc | apply pw_below_drewN | apply below_drew1 | refine below_set ?_ GE602.out) | exact HB.out)⟩
                 ·
                  rw [if_neg c81] at H
                  exact absurd H (by simp)
                ·
                 rw [if_neg c78] at H
                 exact absurd H (by simp)
               ·
                rw [if_neg c77] at H
                exact absurd H (by simp)
 ·
  rw [if_neg c6] at H
  have c6b0 : (t606 == 0) = false := beq_eq_false_iff_ne.mpr c6
  have c6b1 : (t606 != 0) = true := bne_iff_ne.mpr c6
  by_cases c88 : (t603.length : Int) = 0
  ·
   rw [if_pos c88] at H
   have c88b0 : ((t603.length : Int) == 0) = true := beq_iff_eq.mpr c88
   have c88b1 : ((t603.length : Int) != 0) = false := bne_eq_false_iff_eq.mpr c88
   clear c88
   replace H := Option.bind_eq_some_iff.mp H
   obtain ⟨t611, A890, H⟩ := H
   replace H : (if t611 = t606 then (if t610 = t606 then ((magnetolaw04_awake.f k).bind fun t612 => (some t612)) else (none)) else (none)) = some r := H
   have A89 := Aside0.mk A890
   clear A890
   by_cases c90 : t611 = t606
   ·
    rw [if_pos c90] at H
    have c90b0 : (t611 == t606) = true := beq_iff_eq.mpr c90
    have c90b1 : (t611 != t606) = false := bne_eq_false_iff_eq.mpr c90
    clear c90
    by_cases c91 : t610 = t606
    ·
     rw [if_pos c91] at H
     have c91b0 : (t610 == t606) = true := beq_iff_eq.mpr c91
     have c91b1 : (t610 != t606) = false := bne_eq_false_iff_eq.mpr c91
     clear c91
     replace H := Option.bind_eq_some_iff.mp H
     obtain ⟨t612, A920, H⟩ := H
     replace H : (some t612) = some r := H
     have A92 := Aside0.mk A920
     clear A920
     obtain rfl := Option.some.inj H
     go_enter Try.func8, Try.ntmps8
     go_wp2_with (first | ((with_reducible refine gate_dst (N := 3) rfl ?_); (try (refine gate_guard (by rfl) ?_; dsimp only)); refine box_event ?hg (N := 3) ?hd (cs := #[.int .i64 a0_0, .bool a0_1, .bool a0_2, .int .i64 a0_3, .int .u8 a0_4, .int .u8 a0_5, .int .u8 a0_6, .int .u8 a0_7, .int .u8 a0_8, .int .u8 a0_9, .int .u8 a0_10, .int .u8 a0_11]) (t := 24) ?hr ?_; (case hd => rfl); (case hg => rfl); (case hr => first | (go_simp; done) | (go_simp; rfl)); intro gb602 hg w93 hbox hb; have n0_ := Aside0.mk (below_step (by repeat (first | (with_reducible first | exact HB.out | apply below_alloc | apply pw_below_drewN | apply below_drew1) | exact HB.out)) hb); have n1_ := Aside0.mk (hbox); have n2_ := Aside0.mk ((by rw [hg]; exact (below_size (by repeat (first | (with_reducible first | exact HB.out | apply below_alloc | apply pw_below_drewN | apply below_drew1) | exact HB.out))) : w.heap.size ≤ gb602)); have n3_ := Aside0.mk ((by rw [hg]; exact (below_size (by repeat (first | (with_reducible first | exact HB.out | apply below_alloc | apply pw_below_drewN | apply below_drew1) | exact HB.out))) : w.heap.size ≤ gb602)); clear HB; have HB := n0_; have BK602 := n1_; have GW602 := n2_; have GE602 := n3_; clear n0_ n1_ n2_ n3_; clear hb hbox hg; have hcz94_0 : w93.cell? ⟨gb602, 0, none⟩ = some (.int .i64 a0_0) := (blk_cell BK602.out 0).trans rfl; have hcz94_1 : w93.cell? ⟨gb602, 1, none⟩ = some (.bool a0_1) := (blk_cell BK602.out 1).trans rfl; have hcz94_2 : w93.cell? ⟨gb602, 2, none⟩ = some (.bool a0_2) := (blk_cell BK602.out 2).trans rfl; have hcz94_3 : w93.cell? ⟨gb602, 3, none⟩ = some (.int .i64 a0_3) := (blk_cell BK602.out 3).trans rfl; have hcz94_4 : w93.cell? ⟨gb602, 4, none⟩ = some (.int .u8 a0_4) := (blk_cell BK602.out 4).trans rfl; have hcz94_5 : w93.cell? ⟨gb602, 5, none⟩ = some (.int .u8 a0_5) := (blk_cell BK602.out 5).trans rfl; have hcz94_6 : w93.cell? ⟨gb602, 6, none⟩ = some (.int .u8 a0_6) := (blk_cell BK602.out 6).trans rfl; have hcz94_7 : w93.cell? ⟨gb602, 7, none⟩ = some (.int .u8 a0_7) := (blk_cell BK602.out 7).trans rfl; have hcz94_8 : w93.cell? ⟨gb602, 8, none⟩ = some (.int .u8 a0_8) := (blk_cell BK602.out 8).trans rfl; have hcz94_9 : w93.cell? ⟨gb602, 9, none⟩ = some (.int .u8 a0_9) := (blk_cell BK602.out 9).trans rfl; have hcz94_10 : w93.cell? ⟨gb602, 10, none⟩ = some (.int .u8 a0_10) := (blk_cell BK602.out 10).trans rfl; have hcz94_11 : w93.cell? ⟨gb602, 11, none⟩ = some (.int .u8 a0_11) := (blk_cell BK602.out 11).trans rfl; have hfz94_0 := blk_frozen BK602.out 0; have hfz94_1 := blk_frozen BK602.out 1; have hfz94_2 := blk_frozen BK602.out 2; have hfz94_3 := blk_frozen BK602.out 3; have hfz94_4 := blk_frozen BK602.out 4; have hfz94_5 := blk_frozen BK602.out 5; have hfz94_6 := blk_frozen BK602.out 6; have hfz94_7 := blk_frozen BK602.out 7; have hfz94_8 := blk_frozen BK602.out 8; have hfz94_9 := blk_frozen BK602.out 9; have hfz94_10 := blk_frozen BK602.out 10; have hfz94_11 := blk_frozen BK602.out 11) | ((with_reducible refine gate_callee (f := 17) rfl ?_); refine goesL_ (some 24) rfl rfl Try.func17 (by kernel_rfl) rfl #[.agg #[.int .i64 a0_0, .bool a0_1, .bool a0_2, .int .i64 a0_3, .int .u8 a0_4, .int .u8 a0_5, .int .u8 a0_6, .int .u8 a0_7, .int .u8 a0_8, .int .u8 a0_9, .int .u8 a0_10, .int .u8 a0_11]] rfl (by (try simp only [List.map_toArray, List.map_cons, List.map_nil]); first | done | rfl | (simp only [List.length_drop, List.length_take]; rfl)) ?_; (with_reducible refine (field_All.calls k a0_0 a0_1 a0_2 a0_3 a0_4 a0_5 a0_6 a0_7 a0_8 a0_9 a0_10 a0_11 t603 t606 _ A4.out).mono ?_); rintro e w95 ⟨v604, rfl, ho0, hb⟩; refine ⟨_, rfl, ?_⟩; have n0_ := Aside0.mk (Kd.R_lower ho0 (below_size (by repeat (first | (with_reducible first | exact HB.out | apply below_alloc | apply pw_below_drewN | apply below_drew1 | refine below_set ?_ GE602.out) | exact HB.out)))); have n1_ := Aside0.mk (blk_below (g := gb602) (o := .cells #[.int .i64 a0_0, .bool a0_1, .bool a0_2, .int .i64 a0_3, .int .u8 a0_4, .int .u8 a0_5, .int .u8 a0_6, .int .u8 a0_7, .int .u8 a0_8, .int .u8 a0_9, .int .u8 a0_10, .int .u8 a0_11] 24 (0, 0)) (by (with_reducible repeat (first | refine blk_drewN ?_ _ | refine blk_drew ?_ | refine blk_alloc ?_ _)); exact BK602.out) hb); have n2_ := Aside0.mk (below_step (by repeat (first | (with_reducible first | exact HB.out | apply below_alloc | apply pw_below_drewN | apply below_drew1 | refine below_set ?_ GE602.out) | exact HB.out)) hb); clear BK602; clear HB; have HO605 := n0_; have BK602 := n1_; have HB := n2_; clear n0_ n1_ n2_; (try clear hb); (try clear hb2); (try clear hk); (try clear hi); (try clear ho0); have hcz96_0 : w95.cell? ⟨gb602, 0, none⟩ = some (.int .i64 a0_0) := (blk_cell BK602.out 0).trans rfl; have hcz96_1 : w95.cell? ⟨gb602, 1, none⟩ = some (.bool a0_1) := (blk_cell BK602.out 1).trans rfl; have hcz96_2 : w95.cell? ⟨gb602, 2, none⟩ = some (.bool a0_2) := (blk_cell BK602.out 2).trans rfl; have hcz96_3 : w95.cell? ⟨gb602, 3, none⟩ = some (.int .i64 a0_3) := (blk_cell BK602.out 3).trans rfl; have hcz96_4 : w95.cell? ⟨gb602, 4, none⟩ = some (.int .u8 a0_4) := (blk_cell BK602.out 4).trans rfl; have hcz96_5 : w95.cell? ⟨gb602, 5, none⟩ = some (.int .u8 a0_5) := (blk_cell BK602.out 5).trans rfl; have hcz96_6 : w95.cell? ⟨gb602, 6, none⟩ = some (.int .u8 a0_6) := (blk_cell BK602.out 6).trans rfl; have hcz96_7 : w95.cell? ⟨gb602, 7, none⟩ = some (.int .u8 a0_7) := (blk_cell BK602.out 7).trans rfl; have hcz96_8 : w95.cell? ⟨gb602, 8, none⟩ = some (.int .u8 a0_8) := (blk_cell BK602.out 8).trans rfl; have hcz96_9 : w95.cell? ⟨gb602, 9, none⟩ = some (.int .u8 a0_9) := (blk_cell BK602.out 9).trans rfl; have hcz96_10 : w95.cell? ⟨gb602, 10, none⟩ = some (.int .u8 a0_10) := (blk_cell BK602.out 10).trans rfl; have hcz96_11 : w95.cell? ⟨gb602, 11, none⟩ = some (.int .u8 a0_11) := (blk_cell BK602.out 11).trans rfl; have hfz96_0 := blk_frozen BK602.out 0; have hfz96_1 := blk_frozen BK602.out 1; have hfz96_2 := blk_frozen BK602.out 2; have hfz96_3 := blk_frozen BK602.out 3; have hfz96_4 := blk_frozen BK602.out 4; have hfz96_5 := blk_frozen BK602.out 5; have hfz96_6 := blk_frozen BK602.out 6; have hfz96_7 := blk_frozen BK602.out 7; have hfz96_8 := blk_frozen BK602.out 8; have hfz96_9 := blk_frozen BK602.out 9; have hfz96_10 := blk_frozen BK602.out 10; have hfz96_11 := blk_frozen BK602.out 11) | ((with_reducible refine gate_callee (f := 16) rfl ?_); refine goesL_ (some 29) rfl rfl Try.func16 (by kernel_rfl) rfl #[.agg #[.int .i64 a0_0, .bool a0_1, .bool a0_2, .int .i64 a0_3, .int .u8 a0_4, .int .u8 a0_5, .int .u8 a0_6, .int .u8 a0_7, .int .u8 a0_8, .int .u8 a0_9, .int .u8 a0_10, .int .u8 a0_11]] rfl (by (try simp only [List.map_toArray, List.map_cons, List.map_nil]); first | done | rfl | (simp only [List.length_drop, List.length_take]; rfl)) ?_; (with_reducible refine (field_Bits.calls a0_0 a0_1 a0_2 a0_3 a0_4 a0_5 a0_6 a0_7 a0_8 a0_9 a0_10 a0_11 t607 t610 _ A5.out).mono ?_); rintro e w97 ⟨v608, rfl, ho0, hb⟩; refine ⟨_, rfl, ?_⟩; have n0_ := Aside0.mk (Kd.R_elder' (by (with_reducible repeat (first | apply Kd.R_alloc | apply Kd.R_drewN | apply Kd.R_drew)); exact HO605.out) (Kd.R_base ho0) hb); have n1_ := Aside0.mk (Kd.R_lower (Kd.R_new' ho0 (Kd.R_lt (by (with_reducible repeat (first | apply Kd.R_alloc | apply Kd.R_drewN | apply Kd.R_drew)); exact HO605.out))) (below_size (by repeat (first | (with_reducible first | exact HB.out | apply below_alloc | apply pw_below_drewN | apply below_drew1 | refine below_set ?_ GE602.out) | exact HB.out)))); have n2_ := Aside0.mk (blk_below (g := gb602) (o := .cells #[.int .i64 a0_0, .bool a0_1, .bool a0_2, .int .i64 a0_3, .int .u8 a0_4, .int .u8 a0_5, .int .u8 a0_6, .int .u8 a0_7, .int .u8 a0_8, .int .u8 a0_9, .int .u8 a0_10, .int .u8 a0_11] 24 (0, 0)) (by (with_reducible repeat (first | refine blk_drewN ?_ _ | refine blk_drew ?_ | refine blk_alloc ?_ _)); exact BK602.out) hb); have n3_ := Aside0.mk (below_step (by repeat (first | (with_reducible first | exact HB.out | apply below_alloc | apply pw_below_drewN | apply below_drew1 | refine below_set ?_ GE602.out) | exact HB.out)) hb); clear HO605; clear BK602; clear HB; have HO605 := n0_; have HO609 := n1_; have BK602 := n2_; have HB := n3_; clear n0_ n1_ n2_ n3_; (try clear hb); (try clear hb2); (try clear hk); (try clear hi); (try clear ho0); obtain ⟨Ao98, co98, eo98⟩ := Kd.R_slice HO605.out; subst eo98; have hcz99_0 : w97.cell? ⟨gb602, 0, none⟩ = some (.int .i64 a0_0) := (blk_cell BK602.out 0).trans rfl; have hcz99_1 : w97.cell? ⟨gb602, 1, none⟩ = some (.bool a0_1) := (blk_cell BK602.out 1).trans rfl; have hcz99_2 : w97.cell? ⟨gb602, 2, none⟩ = some (.bool a0_2) := (blk_cell BK602.out 2).trans rfl; have hcz99_3 : w97.cell? ⟨gb602, 3, none⟩ = some (.int .i64 a0_3) := (blk_cell BK602.out 3).trans rfl; have hcz99_4 : w97.cell? ⟨gb602, 4, none⟩ = some (.int .u8 a0_4) := (blk_cell BK602.out 4).trans rfl; have hcz99_5 : w97.cell? ⟨gb602, 5, none⟩ = some (.int .u8 a0_5) := (blk_cell BK602.out 5).trans rfl; have hcz99_6 : w97.cell? ⟨gb602, 6, none⟩ = some (.int .u8 a0_6) := (blk_cell BK602.out 6).trans rfl; have hcz99_7 : w97.cell? ⟨gb602, 7, none⟩ = some (.int .u8 a0_7) := (blk_cell BK602.out 7).trans rfl; have hcz99_8 : w97.cell? ⟨gb602, 8, none⟩ = some (.int .u8 a0_8) := (blk_cell BK602.out 8).trans rfl; have hcz99_9 : w97.cell? ⟨gb602, 9, none⟩ = some (.int .u8 a0_9) := (blk_cell BK602.out 9).trans rfl; have hcz99_10 : w97.cell? ⟨gb602, 10, none⟩ = some (.int .u8 a0_10) := (blk_cell BK602.out 10).trans rfl; have hcz99_11 : w97.cell? ⟨gb602, 11, none⟩ = some (.int .u8 a0_11) := (blk_cell BK602.out 11).trans rfl; have hfz99_0 := blk_frozen BK602.out 0; have hfz99_1 := blk_frozen BK602.out 1; have hfz99_2 := blk_frozen BK602.out 2; have hfz99_3 := blk_frozen BK602.out 3; have hfz99_4 := blk_frozen BK602.out 4; have hfz99_5 := blk_frozen BK602.out 5; have hfz99_6 := blk_frozen BK602.out 6; have hfz99_7 := blk_frozen BK602.out 7; have hfz99_8 := blk_frozen BK602.out 8; have hfz99_9 := blk_frozen BK602.out 9; have hfz99_10 := blk_frozen BK602.out 10; have hfz99_11 := blk_frozen BK602.out 11) | (go_at_call 33; (with_reducible refine (frame_Check.calls a0_0 a0_1 a0_2 a0_3 a0_4 a0_5 a0_6 a0_7 a0_8 a0_9 a0_10 a0_11 t611 _ A89.out).mono ?_); rintro e w100 ⟨rfl, hb⟩; have n0_ := Aside0.mk (Kd.R_below (by (with_reducible repeat (first | apply Kd.R_alloc | apply Kd.R_drewN | apply Kd.R_drew)); exact HO605.out) hb); have n1_ := Aside0.mk (Kd.R_below (by (with_reducible repeat (first | apply Kd.R_alloc | apply Kd.R_drewN | apply Kd.R_drew)); exact HO609.out) hb); have n2_ := Aside0.mk (blk_below (g := gb602) (o := .cells #[.int .i64 a0_0, .bool a0_1, .bool a0_2, .int .i64 a0_3, .int .u8 a0_4, .int .u8 a0_5, .int .u8 a0_6, .int .u8 a0_7, .int .u8 a0_8, .int .u8 a0_9, .int .u8 a0_10, .int .u8 a0_11] 24 (0, 0)) (by (with_reducible repeat (first | refine blk_drewN ?_ _ | refine blk_drew ?_ | refine blk_alloc ?_ _)); exact BK602.out) hb); have n3_ := Aside0.mk (below_step (by repeat (first | (with_reducible first | exact HB.out | apply below_alloc | apply pw_below_drewN | apply below_drew1 | refine below_set ?_ GE602.out) | exact HB.out)) hb); clear HO605; clear HO609; clear BK602; clear HB; have HO605 := n0_; have HO609 := n1_; have BK602 := n2_; have HB := n3_; clear n0_ n1_ n2_ n3_; (try clear hb); (try clear hb2); (try clear hk); (try clear hi)) | (go_at_call 19; (with_reducible refine (magnetolaw04_awake.calls k  t612 _ A92.out).mono ?_); rintro e w101 ⟨rfl, hb⟩; have n0_ := Aside0.mk (Kd.R_below (by (with_reducible repeat (first | apply Kd.R_alloc | apply Kd.R_drewN | apply Kd.R_drew)); exact HO605.out) hb); have n1_ := Aside0.mk (Kd.R_below (by (with_reducible repeat (first | apply Kd.R_alloc | apply Kd.R_drewN | apply Kd.R_drew)); exact HO609.out) hb); have n2_ := Aside0.mk (blk_below (g := gb602) (o := .cells #[.int .i64 a0_0, .bool a0_1, .bool a0_2, .int .i64 a0_3, .int .u8 a0_4, .int .u8 a0_5, .int .u8 a0_6, .int .u8 a0_7, .int .u8 a0_8, .int .u8 a0_9, .int .u8 a0_10, .int .u8 a0_11] 24 (0, 0)) (by (with_reducible repeat (first | refine blk_drewN ?_ _ | refine blk_drew ?_ | refine blk_alloc ?_ _)); exact BK602.out) hb); have n3_ := Aside0.mk (below_step (by repeat (first | (with_reducible first | exact HB.out | apply below_alloc | apply pw_below_drewN | apply below_drew1 | refine below_set ?_ GE602.out) | exact HB.out)) hb); clear HO605; clear HO609; clear BK602; clear HB; have HO605 := n0_; have HO609 := n1_; have BK602 := n2_; have HB := n3_; clear n0_ n1_ n2_ n3_; (try clear hb); (try clear hb2); (try clear hk); (try clear hi)))
     go_ret
     exact ⟨by first | rfl | (simp [errW_none, errW_some] <;> rfl) | (simp [*, errW_none, errW_some] <;> rfl), by repeat (first | (with_reducible first | exact HB.out | apply below_alloc | apply pw_below_drewN | apply below_drew1 | refine below_set ?_ GE602.out) | exact HB.out)⟩
    ·
     rw [if_neg c91] at H
     exact absurd H (by simp)
   ·
    rw [if_neg c90] at H
    exact absurd H (by simp)
  ·
   rw [if_neg c88] at H
   exact absurd H (by simp)

end Go.Proofs.Ytakemodmdhglnaa.PA
