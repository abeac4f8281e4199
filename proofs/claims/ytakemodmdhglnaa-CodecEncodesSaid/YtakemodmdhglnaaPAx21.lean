/- Functions of the program, in plain Lean, and their walks (printed; half the indent). Conditions: none. -/
-- PRINTED by print.py (a twelfth state) out of the translation. Not trusted: Lean checks it.
import Derived.Test.YtakemodmdhglnaaPAx0
import Derived.Test.YtakemodmdhglnaaPAx20
namespace Go.Proofs.Ytakemodmdhglnaa.PA
open Go.RowKit Go.Proofs.YtakemodmdhglnaaW.PrintWords Go.Proofs.YtakemodmdhglnaaW.PrintLast Go.Proofs.YtakemodmdhglnaaW.PrintMore
attribute [local go_sem] zqbb zqaz zqbd zqbe zqax zqay zqba zqbc   -- for this text's walks alone
set_option linter.unusedVariables false
set_option linter.unusedSimpArgs false

/-! ### magnetoref04_Bits: function 21 -/
mutual
def magnetoref04_Bits.j0 : Nat → List Int → Int → Bool → Bool → Int → Int → Int → Int → Int → Int → Int → Int → Int → Option (List Int)
 | 0, _, _, _, _, _, _, _, _, _, _, _, _, _ => none
 | k + 1, x3, x280000, x280001, x280002, x280003, x280004, x280005, x280006, x280007, x280008, x280009, x280010, x280011 => (magnetoref04_digits.f k x280003 4).bind fun t295 => (if x3.length + t295.length < 17592186044416 then (magnetoref04_Bits.l0 k (x3 ++ t295) 0 x280000 x280001 x280002 x280003 x280004 x280005 x280006 x280007 x280008 x280009 x280010 x280011) else (none))
def magnetoref04_Bits.l0 : Nat → List Int → Int → Int → Bool → Bool → Int → Int → Int → Int → Int → Int → Int → Int → Int → Option (List Int)
 | 0, _, _, _, _, _, _, _, _, _, _, _, _, _, _ => none
 | k + 1, x3, x4, x280000, x280001, x280002, x280003, x280004, x280005, x280006, x280007, x280008, x280009, x280010, x280011 => if x4 < x280003 then (if x280002 = true then (some x3) else (if 0 ≤ x4 then (if x4 < 8 then ((magnetoref04_digits.f k (wrap64 (rd ([x280004, x280005, x280006, x280007, x280008, x280009, x280010, x280011] : List Int) x4)) 8).bind fun t301 => (if x3.length + t301.length < 17592186044416 then (magnetoref04_Bits.l0 k (x3 ++ t301) (wrap64 (x4 + 1)) x280000 x280001 x280002 x280003 x280004 x280005 x280006 x280007 x280008 x280009 x280010 x280011) else (none))) else (none)) else (none))) else (some x3)
end
def magnetoref04_Bits.f (k : Nat) (a0_0 : Int) (a0_1 : Bool) (a0_2 : Bool) (a0_3 : Int) (a0_4 : Int) (a0_5 : Int) (a0_6 : Int) (a0_7 : Int) (a0_8 : Int) (a0_9 : Int) (a0_10 : Int) (a0_11 : Int) : Option (List Int) := (some (([0] : List Int) : List Int)).bind fun y280 => ((magnetoref03_Arb.f k a0_0 a0_1 a0_2 a0_3 a0_4 a0_5 a0_6 a0_7 a0_8 a0_9 a0_10 a0_11).bind fun t283 => (if y280.length + t283.length < 17592186044416 then ((some (y280 ++ t283 : List Int)).bind fun y286 => (if y286.length < 17592186044416 then ((some (y286 ++ [0] : List Int)).bind fun y289 => (if a0_1 = true then (if y289.length < 17592186044416 then (magnetoref04_Bits.j0 k (y289 ++ [0]) a0_0 a0_1 a0_2 a0_3 a0_4 a0_5 a0_6 a0_7 a0_8 a0_9 a0_10 a0_11) else (none)) else (magnetoref04_Bits.j0 k y289 a0_0 a0_1 a0_2 a0_3 a0_4 a0_5 a0_6 a0_7 a0_8 a0_9 a0_10 a0_11))) else (none))) else (none)))
theorem magnetoref04_Bits.mono_l : ∀ k, (∀ y0 y1 y2 y3 y4 y5 y6 y7 y8 y9 y10 y11 y12, LeO (magnetoref04_Bits.j0 k y0 y1 y2 y3 y4 y5 y6 y7 y8 y9 y10 y11 y12) (magnetoref04_Bits.j0 (k + 1) y0 y1 y2 y3 y4 y5 y6 y7 y8 y9 y10 y11 y12)) ∧ (∀ y0 y1 y2 y3 y4 y5 y6 y7 y8 y9 y10 y11 y12 y13, LeO (magnetoref04_Bits.l0 k y0 y1 y2 y3 y4 y5 y6 y7 y8 y9 y10 y11 y12 y13) (magnetoref04_Bits.l0 (k + 1) y0 y1 y2 y3 y4 y5 y6 y7 y8 y9 y10 y11 y12 y13))
 | 0 => ⟨fun _ _ _ _ _ _ _ _ _ _ _ _ _ r h => by simp [magnetoref04_Bits.j0] at h, fun _ _ _ _ _ _ _ _ _ _ _ _ _ _ r h => by simp [magnetoref04_Bits.l0] at h⟩
 | k + 1 => by
  obtain ⟨ih0, ih1⟩ := magnetoref04_Bits.mono_l k
  refine ⟨?_, ?_⟩
  ·
   intro y0 y1 y2 y3 y4 y5 y6 y7 y8 y9 y10 y11 y12
   unfold magnetoref04_Bits.j0
   repeat' first
   | (with_reducible exact ih0 _ _ _ _ _ _ _ _ _ _ _ _ _)
   | (with_reducible exact ih1 _ _ _ _ _ _ _ _ _ _ _ _ _ _)
   | (with_reducible exact magnetoref03_Arb.mono _ _ _ _ _ _ _ _ _ _ _ _ _)
   | (with_reducible exact magnetoref04_digits.mono _ _ _)
   | (with_reducible exact LeO.refl _)
   | (with_reducible exact LeO.none _)
   | (with_reducible refine LeO.ite ?_ ?_)
   | (with_reducible refine LeO.bind ?_ (fun _ => ?_))
   | exact ih0 _ _ _ _ _ _ _ _ _ _ _ _ _
   | exact ih1 _ _ _ _ _ _ _ _ _ _ _ _ _ _
   | exact magnetoref03_Arb.mono _ _ _ _ _ _ _ _ _ _ _ _ _
   | exact magnetoref04_digits.mono _ _ _
   | exact LeO.none _
   | refine LeO.ite ?_ ?_
   | refine LeO.bind ?_ (fun _ => ?_)
  ·
   intro y0 y1 y2 y3 y4 y5 y6 y7 y8 y9 y10 y11 y12 y13
   unfold magnetoref04_Bits.l0
   repeat' first
   | (with_reducible exact ih0 _ _ _ _ _ _ _ _ _ _ _ _ _)
   | (with_reducible exact ih1 _ _ _ _ _ _ _ _ _ _ _ _ _ _)
   | (with_reducible exact magnetoref03_Arb.mono _ _ _ _ _ _ _ _ _ _ _ _ _)
   | (with_reducible exact magnetoref04_digits.mono _ _ _)
   | (with_reducible exact LeO.refl _)
   | (with_reducible exact LeO.none _)
   | (with_reducible refine LeO.ite ?_ ?_)
   | (with_reducible refine LeO.bind ?_ (fun _ => ?_))
   | exact ih0 _ _ _ _ _ _ _ _ _ _ _ _ _
   | exact ih1 _ _ _ _ _ _ _ _ _ _ _ _ _ _
   | exact magnetoref03_Arb.mono _ _ _ _ _ _ _ _ _ _ _ _ _
   | exact magnetoref04_digits.mono _ _ _
   | exact LeO.none _
   | refine LeO.ite ?_ ?_
   | refine LeO.bind ?_ (fun _ => ?_)
theorem magnetoref04_Bits.mono : ∀ a0 a1 a2 a3 a4 a5 a6 a7 a8 a9 a10 a11 k, LeO (magnetoref04_Bits.f k a0 a1 a2 a3 a4 a5 a6 a7 a8 a9 a10 a11) (magnetoref04_Bits.f (k + 1) a0 a1 a2 a3 a4 a5 a6 a7 a8 a9 a10 a11) := by
 intro a0 a1 a2 a3 a4 a5 a6 a7 a8 a9 a10 a11 k
 obtain ⟨ih0, ih1⟩ := magnetoref04_Bits.mono_l k
 unfold magnetoref04_Bits.f
 repeat' first
   | (with_reducible exact ih0 _ _ _ _ _ _ _ _ _ _ _ _ _)
   | (with_reducible exact ih1 _ _ _ _ _ _ _ _ _ _ _ _ _ _)
   | (with_reducible exact magnetoref03_Arb.mono _ _ _ _ _ _ _ _ _ _ _ _ _)
   | (with_reducible exact magnetoref04_digits.mono _ _ _)
   | (with_reducible exact LeO.refl _)
   | (with_reducible exact LeO.none _)
   | (with_reducible refine LeO.ite ?_ ?_)
   | (with_reducible refine LeO.bind ?_ (fun _ => ?_))
   | exact ih0 _ _ _ _ _ _ _ _ _ _ _ _ _
   | exact ih1 _ _ _ _ _ _ _ _ _ _ _ _ _ _
   | exact magnetoref03_Arb.mono _ _ _ _ _ _ _ _ _ _ _ _ _
   | exact magnetoref04_digits.mono _ _ _
   | exact LeO.none _
   | refine LeO.ite ?_ ?_
   | refine LeO.bind ?_ (fun _ => ?_)
set_option maxHeartbeats 8000000 in
set_option maxRecDepth 100000 in
theorem magnetoref04_Bits.calls (k : Nat) (a0_0 : Int) (a0_1 : Bool) (a0_2 : Bool) (a0_3 : Int) (a0_4 : Int) (a0_5 : Int) (a0_6 : Int) (a0_7 : Int) (a0_8 : Int) (a0_9 : Int) (a0_10 : Int) (a0_11 : Int) (r : List Int) (w : World) (h : magnetoref04_Bits.f k a0_0 a0_1 a0_2 a0_3 a0_4 a0_5 a0_6 a0_7 a0_8 a0_9 a0_10 a0_11 = some r) :
  Calls Try.prog 21 #[.agg #[.int .i64 a0_0, .bool a0_1, .bool a0_2, .int .i64 a0_3, .int .u8 a0_4, .int .u8 a0_5, .int .u8 a0_6, .int .u8 a0_7, .int .u8 a0_8, .int .u8 a0_9, .int .u8 a0_10, .int .u8 a0_11]] w fun e w' => ∃ v0_ : Value, e = .returned (v0_) ∧ Kd.R (Kd.int .i64) 3 w' w.heap.size (fun _ => True) v0_ r ∧ Below w.heap.size w w' := by
 have hu24 := Try.underlying24
 have HB := Aside0.mk (Below.refl w.heap.size w)
 have H : ((some (([0] : List Int) : List Int)).bind fun y280 => ((magnetoref03_Arb.f k a0_0 a0_1 a0_2 a0_3 a0_4 a0_5 a0_6 a0_7 a0_8 a0_9 a0_10 a0_11).bind fun t283 => (if y280.length + t283.length < 17592186044416 then ((some (y280 ++ t283 : List Int)).bind fun y286 => (if y286.length < 17592186044416 then ((some (y286 ++ [0] : List Int)).bind fun y289 => (if a0_1 = true then (if y289.length < 17592186044416 then (magnetoref04_Bits.j0 k (y289 ++ [0]) a0_0 a0_1 a0_2 a0_3 a0_4 a0_5 a0_6 a0_7 a0_8 a0_9 a0_10 a0_11) else (none)) else (magnetoref04_Bits.j0 k y289 a0_0 a0_1 a0_2 a0_3 a0_4 a0_5 a0_6 a0_7 a0_8 a0_9 a0_10 a0_11))) else (none))) else (none)))) = some r := h
 clear h
 obtain ⟨y280, hy280⟩ : ∃ y_ : List Int, y_ = (([0] : List Int)) := ⟨_, rfl⟩
 replace H : ((magnetoref03_Arb.f k a0_0 a0_1 a0_2 a0_3 a0_4 a0_5 a0_6 a0_7 a0_8 a0_9 a0_10 a0_11).bind fun t283 => (if y280.length + t283.length < 17592186044416 then ((some (y280 ++ t283 : List Int)).bind fun y286 => (if y286.length < 17592186044416 then ((some (y286 ++ [0] : List Int)).bind fun y289 => (if a0_1 = true then (if y289.length < 17592186044416 then (magnetoref04_Bits.j0 k (y289 ++ [0]) a0_0 a0_1 a0_2 a0_3 a0_4 a0_5 a0_6 a0_7 a0_8 a0_9 a0_10 a0_11) else (none)) else (magnetoref04_Bits.j0 k y289 a0_0 a0_1 a0_2 a0_3 a0_4 a0_5 a0_6 a0_7 a0_8 a0_9 a0_10 a0_11))) else (none))) else (none))) = some r := by first | (rw [hy280]; with_reducible exact H) | (have H2_ := (Option.bind_some _ _).symm.trans H; rw [hy280]; with_reducible exact H2_) | (have H2_ := (Option.bind_some _ _).symm.trans H; with_reducible exact H2_) | with_reducible exact H | (rw [hy280]; exact H) | exact H
 have Ny280 := Aside0.mk hy280
 clear hy280
 replace H := Option.bind_eq_some_iff.mp H
 obtain ⟨t283, A20, H⟩ := H
 replace H : (if y280.length + t283.length < 17592186044416 then ((some (y280 ++ t283 : List Int)).bind fun y286 => (if y286.length < 17592186044416 then ((some (y286 ++ [0] : List Int)).bind fun y289 => (if a0_1 = true then (if y289.length < 17592186044416 then (magnetoref04_Bits.j0 k (y289 ++ [0]) a0_0 a0_1 a0_2 a0_3 a0_4 a0_5 a0_6 a0_7 a0_8 a0_9 a0_10 a0_11) else (none)) else (magnetoref04_Bits.j0 k y289 a0_0 a0_1 a0_2 a0_3 a0_4 a0_5 a0_6 a0_7 a0_8 a0_9 a0_10 a0_11))) else (none))) else (none)) = some r := H
 have A2 := Aside0.mk A20
 clear A20
 by_cases c3 : y280.length + t283.length < 17592186044416
 ·
  rw [if_pos c3] at H
  have LMc3 := Aside0.mk c3
  clear c3
  obtain ⟨y286, hy286⟩ : ∃ y_ : List Int, y_ = (y280 ++ t283) := ⟨_, rfl⟩
  replace H : (if y286.length < 17592186044416 then ((some (y286 ++ [0] : List Int)).bind fun y289 => (if a0_1 = true then (if y289.length < 17592186044416 then (magnetoref04_Bits.j0 k (y289 ++ [0]) a0_0 a0_1 a0_2 a0_3 a0_4 a0_5 a0_6 a0_7 a0_8 a0_9 a0_10 a0_11) else (none)) else (magnetoref04_Bits.j0 k y289 a0_0 a0_1 a0_2 a0_3 a0_4 a0_5 a0_6 a0_7 a0_8 a0_9 a0_10 a0_11))) else (none)) = some r := by first | (rw [hy286]; with_reducible exact H) | (have H2_ := (Option.bind_some _ _).symm.trans H; rw [hy286]; with_reducible exact H2_) | (have H2_ := (Option.bind_some _ _).symm.trans H; with_reducible exact H2_) | with_reducible exact H | (rw [hy286]; exact H) | exact H
  have Ny286 := Aside0.mk hy286
  clear hy286
  by_cases c4 : y286.length < 17592186044416
  ·
   rw [if_pos c4] at H
   have LMc4 := Aside0.mk c4
   clear c4
   obtain ⟨y289, hy289⟩ : ∃ y_ : List Int, y_ = (y286 ++ [0]) := ⟨_, rfl⟩
   replace H : (if a0_1 = true then (if y289.length < 17592186044416 then (magnetoref04_Bits.j0 k (y289 ++ [0]) a0_0 a0_1 a0_2 a0_3 a0_4 a0_5 a0_6 a0_7 a0_8 a0_9 a0_10 a0_11) else (none)) else (magnetoref04_Bits.j0 k y289 a0_0 a0_1 a0_2 a0_3 a0_4 a0_5 a0_6 a0_7 a0_8 a0_9 a0_10 a0_11)) = some r := by first | (rw [hy289]; with_reducible exact H) | (have H2_ := (Option.bind_some _ _).symm.trans H; rw [hy289]; with_reducible exact H2_) | (have H2_ := (Option.bind_some _ _).symm.trans H; with_reducible exact H2_) | with_reducible exact H | (rw [hy289]; exact H) | exact H
   have Ny289 := Aside0.mk hy289
   clear hy289
   have HC5 := Aside0.mk H
   clear H
   go_enter Try.func21, Try.ntmps21
   go_upto_if 13 with (first | ((with_reducible refine zqar (N := 1) rfl ?_); refine zqav ?hg (N := 1) ?hd (cs := #[.int .i64 a0_0, .bool a0_1, .bool a0_2, .int .i64 a0_3, .int .u8 a0_4, .int .u8 a0_5, .int .u8 a0_6, .int .u8 a0_7, .int .u8 a0_8, .int .u8 a0_9, .int .u8 a0_10, .int .u8 a0_11]) (t := 24) ?hr ?_; (case hd => rfl); (case hg => rfl); (case hr => first | (go_simp; done) | (go_simp; rfl)); intro gb279 hg w6 hbox hb; have n0_ := Aside0.mk (zqak (by repeat (with_reducible first | exact HB.out | apply zqad | apply zqac | apply zqae)) hb); have n1_ := Aside0.mk (hbox); have n2_ := Aside0.mk ((by rw [hg]; exact (zqaj (by repeat (with_reducible first | exact HB.out | apply zqad | apply zqac | apply zqae))) : w.heap.size ≤ gb279)); have n3_ := Aside0.mk ((by rw [hg]; exact (zqaj (by repeat (with_reducible first | exact HB.out | apply zqad | apply zqac | apply zqae))) : w.heap.size ≤ gb279)); clear HB; have HB := n0_; have BK279 := n1_; have GW279 := n2_; have GE279 := n3_; clear n0_ n1_ n2_ n3_; clear hb hbox hg) | ((with_reducible refine zqar (N := 5) rfl ?_); refine Kd.R_lit (Kd.int .i64) _ 3 ?hg (N := 5) ?hd (xs := ([0] : List Int)) (inner := [.int .i64 0]) (ok := fun _ => True) (okp := fun _ => True) ?hr ?hp (fun _ hk => hk) trivial (Below.refl _ _) (Nat.le_refl _) (by simp) ?_; (case hd => rfl); (case hg => rfl); (case hr => first | (go_simp; done) | (go_simp; rfl)); (case hp => exact (Reps.one (show Kd.M (Kd.int .i64) _ _ _ 0 [.int .i64 0] from rfl) (Reps.none _ _))); intro v281 w7 ho8 hb hg_ hnew_; clear hg_ hnew_; (first | rw [← Ny280.out] at ho8 | (simp only [Int.reduceToNat] at ho8; rw [← Ny280.out] at ho8)); have n0_ := Aside0.mk (Kd.R_lower ho8 (zqaj (by repeat (with_reducible first | exact HB.out | apply zqad | apply zqac | apply zqae | refine zqah ?_ GE279.out)))); have n1_ := Aside0.mk (zqam (g := gb279) (o := .cells #[.int .i64 a0_0, .bool a0_1, .bool a0_2, .int .i64 a0_3, .int .u8 a0_4, .int .u8 a0_5, .int .u8 a0_6, .int .u8 a0_7, .int .u8 a0_8, .int .u8 a0_9, .int .u8 a0_10, .int .u8 a0_11] 24 (0, 0)) (by (with_reducible repeat (first | refine zqag ?_ _ | refine zqai ?_ | refine zqaf ?_ _)); exact BK279.out) hb); have n2_ := Aside0.mk (zqak (by repeat (with_reducible first | exact HB.out | apply zqad | apply zqac | apply zqae | refine zqah ?_ GE279.out)) hb); clear BK279; clear HB; have HO282 := n0_; have BK279 := n1_; have HB := n2_; clear n0_ n1_ n2_; clear hb ho8; have hcz9_0 : w7.cell? ⟨gb279, 0, none⟩ = some (.int .i64 a0_0) := (zqab BK279.out 0).trans rfl; have hcz9_1 : w7.cell? ⟨gb279, 1, none⟩ = some (.bool a0_1) := (zqab BK279.out 1).trans rfl; have hcz9_2 : w7.cell? ⟨gb279, 2, none⟩ = some (.bool a0_2) := (zqab BK279.out 2).trans rfl; have hcz9_3 : w7.cell? ⟨gb279, 3, none⟩ = some (.int .i64 a0_3) := (zqab BK279.out 3).trans rfl; have hcz9_4 : w7.cell? ⟨gb279, 4, none⟩ = some (.int .u8 a0_4) := (zqab BK279.out 4).trans rfl; have hcz9_5 : w7.cell? ⟨gb279, 5, none⟩ = some (.int .u8 a0_5) := (zqab BK279.out 5).trans rfl; have hcz9_6 : w7.cell? ⟨gb279, 6, none⟩ = some (.int .u8 a0_6) := (zqab BK279.out 6).trans rfl; have hcz9_7 : w7.cell? ⟨gb279, 7, none⟩ = some (.int .u8 a0_7) := (zqab BK279.out 7).trans rfl; have hcz9_8 : w7.cell? ⟨gb279, 8, none⟩ = some (.int .u8 a0_8) := (zqab BK279.out 8).trans rfl; have hcz9_9 : w7.cell? ⟨gb279, 9, none⟩ = some (.int .u8 a0_9) := (zqab BK279.out 9).trans rfl; have hcz9_10 : w7.cell? ⟨gb279, 10, none⟩ = some (.int .u8 a0_10) := (zqab BK279.out 10).trans rfl; have hcz9_11 : w7.cell? ⟨gb279, 11, none⟩ = some (.int .u8 a0_11) := (zqab BK279.out 11).trans rfl; have hfz9_0 := zqaa BK279.out 0; have hfz9_1 := zqaa BK279.out 1; have hfz9_2 := zqaa BK279.out 2; have hfz9_3 := zqaa BK279.out 3; have hfz9_4 := zqaa BK279.out 4; have hfz9_5 := zqaa BK279.out 5; have hfz9_6 := zqaa BK279.out 6; have hfz9_7 := zqaa BK279.out 7; have hfz9_8 := zqaa BK279.out 8; have hfz9_9 := zqaa BK279.out 9; have hfz9_10 := zqaa BK279.out 10; have hfz9_11 := zqaa BK279.out 11) | ((with_reducible refine zqal (f := 51) rfl ?_); refine goesL_ (some 7) rfl rfl Try.func51 (by kernel_rfl) rfl #[.agg #[.int .i64 a0_0, .bool a0_1, .bool a0_2, .int .i64 a0_3, .int .u8 a0_4, .int .u8 a0_5, .int .u8 a0_6, .int .u8 a0_7, .int .u8 a0_8, .int .u8 a0_9, .int .u8 a0_10, .int .u8 a0_11]] rfl (by (try simp only [List.map_toArray, List.map_cons, List.map_nil]); first | done | rfl | (simp only [List.length_drop, List.length_take]; rfl)) ?_; (with_reducible refine (magnetoref03_Arb.calls k a0_0 a0_1 a0_2 a0_3 a0_4 a0_5 a0_6 a0_7 a0_8 a0_9 a0_10 a0_11 t283 _ A2.out).mono ?_); rintro e w10 ⟨v284, rfl, ho0, hb⟩; refine ⟨_, rfl, ?_⟩; have n0_ := Aside0.mk (Kd.R_elder' (by (with_reducible repeat (first | apply Kd.R_alloc | apply Kd.R_drewN | apply Kd.R_drew)); exact HO282.out) (Kd.R_base ho0) hb); have n1_ := Aside0.mk (Kd.R_lower (Kd.R_new' ho0 (Kd.R_lt (by (with_reducible repeat (first | apply Kd.R_alloc | apply Kd.R_drewN | apply Kd.R_drew)); exact HO282.out))) (zqaj (by repeat (with_reducible first | exact HB.out | apply zqad | apply zqac | apply zqae | refine zqah ?_ GE279.out)))); have n2_ := Aside0.mk (zqam (g := gb279) (o := .cells #[.int .i64 a0_0, .bool a0_1, .bool a0_2, .int .i64 a0_3, .int .u8 a0_4, .int .u8 a0_5, .int .u8 a0_6, .int .u8 a0_7, .int .u8 a0_8, .int .u8 a0_9, .int .u8 a0_10, .int .u8 a0_11] 24 (0, 0)) (by (with_reducible repeat (first | refine zqag ?_ _ | refine zqai ?_ | refine zqaf ?_ _)); exact BK279.out) hb); have n3_ := Aside0.mk (zqak (by repeat (with_reducible first | exact HB.out | apply zqad | apply zqac | apply zqae | refine zqah ?_ GE279.out)) hb); clear HO282; clear BK279; clear HB; have HO282 := n0_; have HO285 := n1_; have BK279 := n2_; have HB := n3_; clear n0_ n1_ n2_ n3_; (try clear hb); (try clear hb2); (try clear hk); (try clear hi); (try clear ho0); obtain ⟨Ao12, co12, eo12⟩ := Kd.R_slice HO285.out; subst eo12) | ((with_reducible refine zqao (b := .append) (xs := #[.tmp 5, .tmp 7]) rfl ?_); at_builtin; refine Kd.R_append_rows (Kd.int .i64) (w0 := w) w.heap.size rfl (.tmp 5) (.tmp 7) 25 3 (.int .i64 0) 8 rfl Try.underlying25 info3 rfl (by decide) (by omega) v281 y280 t283 _ _ _ (fun k_ => some k_ ≠ (.slice Ao12 t283.length co12 : Value).ownBlock) (fun _ => False) rfl rfl ?aO ?aR (fun _ _ h => h) (fun _ h => h.elim) ?aF ?aB ?aS ?aL ?_; (case aR => repeat (first | exact (Kd.R_reads' HO285.out).2.2 | (with_reducible refine Kd.C_alloc ?_ _) | (with_reducible refine Kd.C_drewN ?_ _) | (with_reducible refine Kd.C_drew ?_))); (case aB => exact (by repeat (with_reducible first | exact HB.out | apply zqad | apply zqac | apply zqae | refine zqah ?_ GE279.out))); (case aF => exact (fun k_ hk => Kd.fresh' (Kd.R_lt (by (with_reducible repeat (first | apply Kd.R_alloc | apply Kd.R_drewN | apply Kd.R_drew)); exact HO285.out)) k_ hk)); (case aO => exact (by (with_reducible repeat (first | apply Kd.R_alloc | apply Kd.R_drewN | apply Kd.R_drew)); exact Kd.R_mono HO282.out (fun _ hk => hk.2))); (case aS => exact (zqaj (by repeat (with_reducible first | exact HB.out | apply zqad | apply zqac | apply zqae | refine zqah ?_ GE279.out)))); (case aL => have := LMc3.out; omega); intro v287 w11 ho hb hg hat; rw [← Ny286.out] at ho; have n0_ := Aside0.mk (zqaw (g := gb279) (o := .cells #[.int .i64 a0_0, .bool a0_1, .bool a0_2, .int .i64 a0_3, .int .u8 a0_4, .int .u8 a0_5, .int .u8 a0_6, .int .u8 a0_7, .int .u8 a0_8, .int .u8 a0_9, .int .u8 a0_10, .int .u8 a0_11] 24 (0, 0)) (by (with_reducible repeat (first | refine zqag ?_ _ | refine zqai ?_ | refine zqaf ?_ _)); exact BK279.out) hg (Kd.R_ne HO282.out BK279.out (by decide))); have n1_ := Aside0.mk (Kd.R_after (ok := (fun _ => True)) (by (with_reducible repeat (first | apply Kd.R_alloc | apply Kd.R_drewN | apply Kd.R_drew)); exact HO285.out) hg hat); have n2_ := Aside0.mk (hb); have n3_ := Aside0.mk (ho); clear BK279; clear HO285; clear HB; clear HO282; have BK279 := n0_; have HO285 := n1_; have HB := n2_; have HO288 := n3_; clear n0_ n1_ n2_ n3_; clear ho hb hg hat) | ((with_reducible refine zqao (b := .append) (xs := #[.tmp 9, .tmp 10]) rfl ?_); at_builtin; refine Kd.R_append (Kd.int .i64) (w0 := w) w.heap.size rfl (.tmp 9) (.tmp 10) 25 3 (.int .i64 0) 8 rfl Try.underlying25 info3 rfl (by decide) (by omega) v287 y286 0 [.int .i64 0] (fun k_ => some k_ ≠ (.slice Ao12 t283.length co12 : Value).ownBlock) (fun _ => False) rfl rfl ?aP (fun _ hk => hk.elim) ?aF ?aO ?aB ?aS ?aL ?_; (case aP => exact rfl); (case aB => exact (by repeat (with_reducible first | exact HB.out | apply zqad | apply zqac | apply zqae | refine zqah ?_ GE279.out))); (case aF => exact (fun k_ hk => Kd.fresh' (Kd.R_lt (by (with_reducible repeat (first | apply Kd.R_alloc | apply Kd.R_drewN | apply Kd.R_drew)); exact HO285.out)) k_ hk)); (case aO => exact (by (with_reducible repeat (first | apply Kd.R_alloc | apply Kd.R_drewN | apply Kd.R_drew)); exact HO288.out)); (case aS => exact (zqaj (by repeat (with_reducible first | exact HB.out | apply zqad | apply zqac | apply zqae | refine zqah ?_ GE279.out)))); (case aL => have := LMc4.out; omega); intro v290 w13 ho hb hg hat; rw [← Ny289.out] at ho; have n0_ := Aside0.mk (zqaw (g := gb279) (o := .cells #[.int .i64 a0_0, .bool a0_1, .bool a0_2, .int .i64 a0_3, .int .u8 a0_4, .int .u8 a0_5, .int .u8 a0_6, .int .u8 a0_7, .int .u8 a0_8, .int .u8 a0_9, .int .u8 a0_10, .int .u8 a0_11] 24 (0, 0)) (by (with_reducible repeat (first | refine zqag ?_ _ | refine zqai ?_ | refine zqaf ?_ _)); exact BK279.out) hg (Kd.R_ne HO288.out BK279.out (by decide))); have n1_ := Aside0.mk (Kd.R_after (ok := (fun _ => True)) (by (with_reducible repeat (first | apply Kd.R_alloc | apply Kd.R_drewN | apply Kd.R_drew)); exact HO285.out) hg hat); have n2_ := Aside0.mk (hb); have n3_ := Aside0.mk (ho); clear BK279; clear HO285; clear HB; clear HO288; have BK279 := n0_; have HO285 := n1_; have HB := n2_; have HO291 := n3_; clear n0_ n1_ n2_ n3_; clear ho hb hg hat; have hcz14_0 : w13.cell? ⟨gb279, 0, none⟩ = some (.int .i64 a0_0) := (zqab BK279.out 0).trans rfl; have hcz14_1 : w13.cell? ⟨gb279, 1, none⟩ = some (.bool a0_1) := (zqab BK279.out 1).trans rfl; have hcz14_2 : w13.cell? ⟨gb279, 2, none⟩ = some (.bool a0_2) := (zqab BK279.out 2).trans rfl; have hcz14_3 : w13.cell? ⟨gb279, 3, none⟩ = some (.int .i64 a0_3) := (zqab BK279.out 3).trans rfl; have hcz14_4 : w13.cell? ⟨gb279, 4, none⟩ = some (.int .u8 a0_4) := (zqab BK279.out 4).trans rfl; have hcz14_5 : w13.cell? ⟨gb279, 5, none⟩ = some (.int .u8 a0_5) := (zqab BK279.out 5).trans rfl; have hcz14_6 : w13.cell? ⟨gb279, 6, none⟩ = some (.int .u8 a0_6) := (zqab BK279.out 6).trans rfl; have hcz14_7 : w13.cell? ⟨gb279, 7, none⟩ = some (.int .u8 a0_7) := (zqab BK279.out 7).trans rfl; have hcz14_8 : w13.cell? ⟨gb279, 8, none⟩ = some (.int .u8 a0_8) := (zqab BK279.out 8).trans rfl; have hcz14_9 : w13.cell? ⟨gb279, 9, none⟩ = some (.int .u8 a0_9) := (zqab BK279.out 9).trans rfl; have hcz14_10 : w13.cell? ⟨gb279, 10, none⟩ = some (.int .u8 a0_10) := (zqab BK279.out 10).trans rfl; have hcz14_11 : w13.cell? ⟨gb279, 11, none⟩ = some (.int .u8 a0_11) := (zqab BK279.out 11).trans rfl; have hfz14_0 := zqaa BK279.out 0; have hfz14_1 := zqaa BK279.out 1; have hfz14_2 := zqaa BK279.out 2; have hfz14_3 := zqaa BK279.out 3; have hfz14_4 := zqaa BK279.out 4; have hfz14_5 := zqaa BK279.out 5; have hfz14_6 := zqaa BK279.out 6; have hfz14_7 := zqaa BK279.out 7; have hfz14_8 := zqaa BK279.out 8; have hfz14_9 := zqaa BK279.out 9; have hfz14_10 := zqaa BK279.out 10; have hfz14_11 := zqaa BK279.out 11))
   (try simp only [Act.put, List.setIfInBounds_toArray, List.set_cons_zero, List.set_cons_succ])
   go_cut [3] (fun v3 wc => ∃ (kq : Nat) (x3_4 : List Int), Aside0 (magnetoref04_Bits.j0 kq x3_4 a0_0 a0_1 a0_2 a0_3 a0_4 a0_5 a0_6 a0_7 a0_8 a0_9 a0_10 a0_11 = some r) ∧ Aside0 (kq ≤ k) ∧ Aside0 (Kd.R (Kd.int .i64) 3 wc w.heap.size (fun _ => True) v3 x3_4) ∧ Aside0 (wc.heap[gb279]? = some (.cells #[.int .i64 a0_0, .bool a0_1, .bool a0_2, .int .i64 a0_3, .int .u8 a0_4, .int .u8 a0_5, .int .u8 a0_6, .int .u8 a0_7, .int .u8 a0_8, .int .u8 a0_9, .int .u8 a0_10, .int .u8 a0_11] 24 (0, 0))) ∧ Aside0 (Below w.heap.size w wc))
   case first =>
    have H := HC5.out
    clear HC5
    by_cases c15 : a0_1 = true
    ·
     subst c15
     have H1 : (if y289.length < 17592186044416 then (magnetoref04_Bits.j0 k (y289 ++ [0]) a0_0 true a0_2 a0_3 a0_4 a0_5 a0_6 a0_7 a0_8 a0_9 a0_10 a0_11) else (none)) = some r := by rw [if_pos rfl] at H; exact H
     clear H
     have H := H1
     clear H1
     by_cases c16 : y289.length < 17592186044416
     ·
      rw [if_pos c16] at H
      have LMc16 := Aside0.mk c16
      clear c16
      obtain ⟨y292, hy292⟩ : ∃ y_ : List Int, y_ = (y289 ++ [0]) := ⟨_, rfl⟩
      replace H : (magnetoref04_Bits.j0 k y292 a0_0 true a0_2 a0_3 a0_4 a0_5 a0_6 a0_7 a0_8 a0_9 a0_10 a0_11) = some r := by first | (rw [hy292]; with_reducible exact H) | (have H2_ := (Option.bind_some _ _).symm.trans H; rw [hy292]; with_reducible exact H2_) | (have H2_ := (Option.bind_some _ _).symm.trans H; with_reducible exact H2_) | with_reducible exact H | (rw [hy292]; exact H) | exact H
      have Ny292 := Aside0.mk hy292
      clear hy292
      have H' := Aside0.mk H
      clear H
      go_wp2_with (first | ((with_reducible refine zqao (b := .append) (xs := #[.tmp 14, .tmp 15]) rfl ?_); at_builtin; refine Kd.R_append (Kd.int .i64) (w0 := w) w.heap.size rfl (.tmp 14) (.tmp 15) 25 3 (.int .i64 0) 8 rfl Try.underlying25 info3 rfl (by decide) (by omega) v290 y289 0 [.int .i64 0] (fun k_ => some k_ ≠ (.slice Ao12 t283.length co12 : Value).ownBlock) (fun _ => False) rfl rfl ?aP (fun _ hk => hk.elim) ?aF ?aO ?aB ?aS ?aL ?_; (case aP => exact rfl); (case aB => exact (by repeat (with_reducible first | exact HB.out | apply zqad | apply zqac | apply zqae | refine zqah ?_ GE279.out))); (case aF => exact (fun k_ hk => Kd.fresh' (Kd.R_lt (by (with_reducible repeat (first | apply Kd.R_alloc | apply Kd.R_drewN | apply Kd.R_drew)); exact HO285.out)) k_ hk)); (case aO => exact (by (with_reducible repeat (first | apply Kd.R_alloc | apply Kd.R_drewN | apply Kd.R_drew)); exact HO291.out)); (case aS => exact (zqaj (by repeat (with_reducible first | exact HB.out | apply zqad | apply zqac | apply zqae | refine zqah ?_ GE279.out)))); (case aL => have := LMc16.out; omega); intro v293 w17 ho hb hg hat; rw [← Ny292.out] at ho; have n0_ := Aside0.mk (zqaw (g := gb279) (o := .cells #[.int .i64 a0_0, .bool true, .bool a0_2, .int .i64 a0_3, .int .u8 a0_4, .int .u8 a0_5, .int .u8 a0_6, .int .u8 a0_7, .int .u8 a0_8, .int .u8 a0_9, .int .u8 a0_10, .int .u8 a0_11] 24 (0, 0)) (by (with_reducible repeat (first | refine zqag ?_ _ | refine zqai ?_ | refine zqaf ?_ _)); exact BK279.out) hg (Kd.R_ne HO291.out BK279.out (by decide))); have n1_ := Aside0.mk (Kd.R_after (ok := (fun _ => True)) (by (with_reducible repeat (first | apply Kd.R_alloc | apply Kd.R_drewN | apply Kd.R_drew)); exact HO285.out) hg hat); have n2_ := Aside0.mk (hb); have n3_ := Aside0.mk (ho); clear BK279; clear HO285; clear HB; clear HO291; have BK279 := n0_; have HO285 := n1_; have HB := n2_; have HO294 := n3_; clear n0_ n1_ n2_ n3_; clear ho hb hg hat))
      go_meet
      case rel => exact ⟨_, (y292), H', ⟨by first | omega | exact Nat.le_refl _⟩, ⟨by (with_reducible repeat (first | apply Kd.R_alloc | apply Kd.R_drewN | apply Kd.R_drew)); exact Kd.R_mono HO294.out (fun _ hk => trivial)⟩, ⟨by (with_reducible repeat (first | refine zqag ?_ _ | refine zqai ?_ | refine zqaf ?_ _)); exact BK279.out⟩, ⟨by repeat (with_reducible first | exact HB.out | apply zqad | apply zqac | apply zqae | refine zqah ?_ GE279.out)⟩⟩
     ·
      rw [if_neg c16] at H
      exact absurd H (by simp)
    ·
     replace c15 := Bool.eq_false_iff.mpr c15
     subst c15
     have H1 : (magnetoref04_Bits.j0 k y289 a0_0 false a0_2 a0_3 a0_4 a0_5 a0_6 a0_7 a0_8 a0_9 a0_10 a0_11) = some r := by rw [if_neg (show ¬ (false = true) by decide)] at H; exact H
     clear H
     have H := H1
     clear H1
     have H' := Aside0.mk H
     clear H
     go_wp2
     go_meet
     case rel => exact ⟨_, (y289), H', ⟨by first | omega | exact Nat.le_refl _⟩, ⟨by (with_reducible repeat (first | apply Kd.R_alloc | apply Kd.R_drewN | apply Kd.R_drew)); exact Kd.R_mono HO291.out (fun _ hk => trivial)⟩, ⟨by (with_reducible repeat (first | refine zqag ?_ _ | refine zqai ?_ | refine zqaf ?_ _)); exact BK279.out⟩, ⟨by repeat (with_reducible first | exact HB.out | apply zqad | apply zqac | apply zqae | refine zqah ?_ GE279.out)⟩⟩
   case rest =>
    clear HC5
    try clear c1
    try clear c2
    try clear p2
    try clear c3
    try clear c4
    try clear c5
    try clear c15
    try clear c16
    try clear hcz14_0
    try clear hcz14_1
    try clear hcz14_10
    try clear hcz14_11
    try clear hcz14_2
    try clear hcz14_3
    try clear hcz14_4
    try clear hcz14_5
    try clear hcz14_6
    try clear hcz14_7
    try clear hcz14_8
    try clear hcz14_9
    try clear hcz9_0
    try clear hcz9_1
    try clear hcz9_10
    try clear hcz9_11
    try clear hcz9_2
    try clear hcz9_3
    try clear hcz9_4
    try clear hcz9_5
    try clear hcz9_6
    try clear hcz9_7
    try clear hcz9_8
    try clear hcz9_9
    try clear hfz14_0
    try clear hfz14_1
    try clear hfz14_10
    try clear hfz14_11
    try clear hfz14_2
    try clear hfz14_3
    try clear hfz14_4
    try clear hfz14_5
    try clear hfz14_6
    try clear hfz14_7
    try clear hfz14_8
    try clear hfz14_9
    try clear hfz9_0
    try clear hfz9_1
    try clear hfz9_10
    try clear hfz9_11
    try clear hfz9_2
    try clear hfz9_3
    try clear hfz9_4
    try clear hfz9_5
    try clear hfz9_6
    try clear hfz9_7
    try clear hfz9_8
    try clear hfz9_9
    obtain ⟨kq, x3_4, HA, HJ4, HO_3, BK279, HB⟩ := hcut
    cases kq with
    | zero => exact absurd HA.out (by simp [magnetoref04_Bits.j0])
    | succ kj4 =>
     have H := HA.out
     clear HA
     simp only [magnetoref04_Bits.j0] at H
     replace H := Option.bind_eq_some_iff.mp H
     obtain ⟨t295, A180, H⟩ := H
     replace H : (if x3_4.length + t295.length < 17592186044416 then (magnetoref04_Bits.l0 kj4 (x3_4 ++ t295) 0 a0_0 a0_1 a0_2 a0_3 a0_4 a0_5 a0_6 a0_7 a0_8 a0_9 a0_10 a0_11) else (none)) = some r := H
     have A18 := Aside0.mk A180
     clear A180
     by_cases c19 : x3_4.length + t295.length < 17592186044416
     ·
      rw [if_pos c19] at H
      have LMc19 := Aside0.mk c19
      clear c19
      obtain ⟨y298, hy298⟩ : ∃ y_ : List Int, y_ = (x3_4 ++ t295) := ⟨_, rfl⟩
      replace H : (magnetoref04_Bits.l0 kj4 y298 0 a0_0 a0_1 a0_2 a0_3 a0_4 a0_5 a0_6 a0_7 a0_8 a0_9 a0_10 a0_11) = some r := by first | (rw [hy298]; with_reducible exact H) | (have H2_ := (Option.bind_some _ _).symm.trans H; rw [hy298]; with_reducible exact H2_) | (have H2_ := (Option.bind_some _ _).symm.trans H; with_reducible exact H2_) | with_reducible exact H | (rw [hy298]; exact H) | exact H
      have Ny298 := Aside0.mk hy298
      clear hy298
      have H' := Aside0.mk H
      clear H
      have hcz20_0 : wc.cell? ⟨gb279, 0, none⟩ = some (.int .i64 a0_0) := (zqab BK279.out 0).trans rfl
      have hcz20_1 : wc.cell? ⟨gb279, 1, none⟩ = some (.bool a0_1) := (zqab BK279.out 1).trans rfl
      have hcz20_2 : wc.cell? ⟨gb279, 2, none⟩ = some (.bool a0_2) := (zqab BK279.out 2).trans rfl
      have hcz20_3 : wc.cell? ⟨gb279, 3, none⟩ = some (.int .i64 a0_3) := (zqab BK279.out 3).trans rfl
      have hcz20_4 : wc.cell? ⟨gb279, 4, none⟩ = some (.int .u8 a0_4) := (zqab BK279.out 4).trans rfl
      have hcz20_5 : wc.cell? ⟨gb279, 5, none⟩ = some (.int .u8 a0_5) := (zqab BK279.out 5).trans rfl
      have hcz20_6 : wc.cell? ⟨gb279, 6, none⟩ = some (.int .u8 a0_6) := (zqab BK279.out 6).trans rfl
      have hcz20_7 : wc.cell? ⟨gb279, 7, none⟩ = some (.int .u8 a0_7) := (zqab BK279.out 7).trans rfl
      have hcz20_8 : wc.cell? ⟨gb279, 8, none⟩ = some (.int .u8 a0_8) := (zqab BK279.out 8).trans rfl
      have hcz20_9 : wc.cell? ⟨gb279, 9, none⟩ = some (.int .u8 a0_9) := (zqab BK279.out 9).trans rfl
      have hcz20_10 : wc.cell? ⟨gb279, 10, none⟩ = some (.int .u8 a0_10) := (zqab BK279.out 10).trans rfl
      have hcz20_11 : wc.cell? ⟨gb279, 11, none⟩ = some (.int .u8 a0_11) := (zqab BK279.out 11).trans rfl
      have hfz20_0 := zqaa BK279.out 0
      have hfz20_1 := zqaa BK279.out 1
      have hfz20_2 := zqaa BK279.out 2
      have hfz20_3 := zqaa BK279.out 3
      have hfz20_4 := zqaa BK279.out 4
      have hfz20_5 := zqaa BK279.out 5
      have hfz20_6 := zqaa BK279.out 6
      have hfz20_7 := zqaa BK279.out 7
      have hfz20_8 := zqaa BK279.out 8
      have hfz20_9 := zqaa BK279.out 9
      have hfz20_10 := zqaa BK279.out 10
      have hfz20_11 := zqaa BK279.out 11
      go_wp2_with (first | ((with_reducible refine zqal (f := 52) rfl ?_); refine goesL_ (some 20) rfl rfl Try.func52 (by kernel_rfl) rfl #[.int .i64 a0_3, .int .i64 4] rfl (by (try simp only [List.map_toArray, List.map_cons, List.map_nil]); first | done | rfl | (simp only [List.length_drop, List.length_take]; rfl)) ?_; (with_reducible refine (magnetoref04_digits.calls kj4 a0_3 4 t295 _ A18.out).mono ?_); rintro e w21 ⟨v296, rfl, ho0, hb⟩; refine ⟨_, rfl, ?_⟩; have n0_ := Aside0.mk (Kd.R_elder' (by (with_reducible repeat (first | apply Kd.R_alloc | apply Kd.R_drewN | apply Kd.R_drew)); exact HO_3.out) (Kd.R_base ho0) hb); have n1_ := Aside0.mk (Kd.R_lower (Kd.R_new' ho0 (Kd.R_lt (by (with_reducible repeat (first | apply Kd.R_alloc | apply Kd.R_drewN | apply Kd.R_drew)); exact HO_3.out))) (zqaj (by repeat (with_reducible first | exact HB.out | apply zqad | apply zqac | apply zqae | refine zqah ?_ GE279.out)))); have n2_ := Aside0.mk (zqam (g := gb279) (o := .cells #[.int .i64 a0_0, .bool a0_1, .bool a0_2, .int .i64 a0_3, .int .u8 a0_4, .int .u8 a0_5, .int .u8 a0_6, .int .u8 a0_7, .int .u8 a0_8, .int .u8 a0_9, .int .u8 a0_10, .int .u8 a0_11] 24 (0, 0)) (by (with_reducible repeat (first | refine zqag ?_ _ | refine zqai ?_ | refine zqaf ?_ _)); exact BK279.out) hb); have n3_ := Aside0.mk (zqak (by repeat (with_reducible first | exact HB.out | apply zqad | apply zqac | apply zqae | refine zqah ?_ GE279.out)) hb); clear HO_3; clear BK279; clear HB; have HO_3 := n0_; have HO297 := n1_; have BK279 := n2_; have HB := n3_; clear n0_ n1_ n2_ n3_; (try clear hb); (try clear hb2); (try clear hk); (try clear hi); (try clear ho0); obtain ⟨Ao23, co23, eo23⟩ := Kd.R_slice HO297.out; subst eo23) | ((with_reducible refine zqao (b := .append) (xs := #[.tmp 17, .tmp 20]) rfl ?_); at_builtin; refine Kd.R_append_rows (Kd.int .i64) (w0 := w) w.heap.size rfl (.tmp 17) (.tmp 20) 25 3 (.int .i64 0) 8 rfl Try.underlying25 info3 rfl (by decide) (by omega) u3 x3_4 t295 _ _ _ (fun k_ => some k_ ≠ (.slice Ao23 t295.length co23 : Value).ownBlock) (fun _ => False) rfl rfl ?aO ?aR (fun _ _ h => h) (fun _ h => h.elim) ?aF ?aB ?aS ?aL ?_; (case aR => repeat (first | exact (Kd.R_reads' HO297.out).2.2 | (with_reducible refine Kd.C_alloc ?_ _) | (with_reducible refine Kd.C_drewN ?_ _) | (with_reducible refine Kd.C_drew ?_))); (case aB => exact (by repeat (with_reducible first | exact HB.out | apply zqad | apply zqac | apply zqae | refine zqah ?_ GE279.out))); (case aF => exact (fun k_ hk => Kd.fresh' (Kd.R_lt (by (with_reducible repeat (first | apply Kd.R_alloc | apply Kd.R_drewN | apply Kd.R_drew)); exact HO297.out)) k_ hk)); (case aO => exact (by (with_reducible repeat (first | apply Kd.R_alloc | apply Kd.R_drewN | apply Kd.R_drew)); exact Kd.R_mono HO_3.out (fun _ hk => hk.2))); (case aS => exact (zqaj (by repeat (with_reducible first | exact HB.out | apply zqad | apply zqac | apply zqae | refine zqah ?_ GE279.out)))); (case aL => have := LMc19.out; omega); intro v299 w22 ho hb hg hat; rw [← Ny298.out] at ho; have n0_ := Aside0.mk (zqaw (g := gb279) (o := .cells #[.int .i64 a0_0, .bool a0_1, .bool a0_2, .int .i64 a0_3, .int .u8 a0_4, .int .u8 a0_5, .int .u8 a0_6, .int .u8 a0_7, .int .u8 a0_8, .int .u8 a0_9, .int .u8 a0_10, .int .u8 a0_11] 24 (0, 0)) (by (with_reducible repeat (first | refine zqag ?_ _ | refine zqai ?_ | refine zqaf ?_ _)); exact BK279.out) hg (Kd.R_ne HO_3.out BK279.out (by decide))); have n1_ := Aside0.mk (Kd.R_after (ok := (fun _ => True)) (by (with_reducible repeat (first | apply Kd.R_alloc | apply Kd.R_drewN | apply Kd.R_drew)); exact HO297.out) hg hat); have n2_ := Aside0.mk (hb); have n3_ := Aside0.mk (ho); clear BK279; clear HO297; clear HB; clear HO_3; have BK279 := n0_; have HO297 := n1_; have HB := n2_; have HO300 := n3_; clear n0_ n1_ n2_ n3_; clear ho hb hg hat))
      go_loopg [3, 4] kj4 (fun kq v3 v4 w' => ∃ (x3_2 : List Int) (x4_2 : Int), v4 = .int .i64 x4_2 ∧ Aside0 (magnetoref04_Bits.l0 kq x3_2 x4_2 a0_0 a0_1 a0_2 a0_3 a0_4 a0_5 a0_6 a0_7 a0_8 a0_9 a0_10 a0_11 = some r) ∧ Aside0 (kq ≤ kj4) ∧ Aside0 (Kd.R (Kd.int .i64) 3 w' w.heap.size (fun _ => True) v3 x3_2) ∧ Aside0 (w'.heap[gb279]? = some (.cells #[.int .i64 a0_0, .bool a0_1, .bool a0_2, .int .i64 a0_3, .int .u8 a0_4, .int .u8 a0_5, .int .u8 a0_6, .int .u8 a0_7, .int .u8 a0_8, .int .u8 a0_9, .int .u8 a0_10, .int .u8 a0_11] 24 (0, 0))) ∧ Aside0 (Below w.heap.size w w'))
      case atStart => exact ⟨(y298), (0), (by first | rfl | (simp; done) | (simp [*]; done)), H', ⟨Nat.le_refl _⟩, ⟨by (with_reducible repeat (first | apply Kd.R_alloc | apply Kd.R_drewN | apply Kd.R_drew)); exact Kd.R_mono HO300.out (fun _ hk => trivial)⟩, ⟨by (with_reducible repeat (first | refine zqag ?_ _ | refine zqai ?_ | refine zqaf ?_ _)); exact BK279.out⟩, ⟨by repeat (with_reducible first | exact HB.out | apply zqad | apply zqac | apply zqae | refine zqah ?_ GE279.out)⟩⟩
      case round =>
       clear H'
       try clear c1
       try clear c2
       try clear p2
       try clear c3
       try clear c4
       try clear c5
       try clear c15
       try clear c16
       try clear c19
       try clear c21
       try clear hcz14_0
       try clear hcz14_1
       try clear hcz14_10
       try clear hcz14_11
       try clear hcz14_2
       try clear hcz14_3
       try clear hcz14_4
       try clear hcz14_5
       try clear hcz14_6
       try clear hcz14_7
       try clear hcz14_8
       try clear hcz14_9
       try clear hcz20_0
       try clear hcz20_1
       try clear hcz20_10
       try clear hcz20_11
       try clear hcz20_2
       try clear hcz20_3
       try clear hcz20_4
       try clear hcz20_5
       try clear hcz20_6
       try clear hcz20_7
       try clear hcz20_8
       try clear hcz20_9
       try clear hcz9_0
       try clear hcz9_1
       try clear hcz9_10
       try clear hcz9_11
       try clear hcz9_2
       try clear hcz9_3
       try clear hcz9_4
       try clear hcz9_5
       try clear hcz9_6
       try clear hcz9_7
       try clear hcz9_8
       try clear hcz9_9
       try clear hfz14_0
       try clear hfz14_1
       try clear hfz14_10
       try clear hfz14_11
       try clear hfz14_2
       try clear hfz14_3
       try clear hfz14_4
       try clear hfz14_5
       try clear hfz14_6
       try clear hfz14_7
       try clear hfz14_8
       try clear hfz14_9
       try clear hfz20_0
       try clear hfz20_1
       try clear hfz20_10
       try clear hfz20_11
       try clear hfz20_2
       try clear hfz20_3
       try clear hfz20_4
       try clear hfz20_5
       try clear hfz20_6
       try clear hfz20_7
       try clear hfz20_8
       try clear hfz20_9
       try clear hfz9_0
       try clear hfz9_1
       try clear hfz9_10
       try clear hfz9_11
       try clear hfz9_2
       try clear hfz9_3
       try clear hfz9_4
       try clear hfz9_5
       try clear hfz9_6
       try clear hfz9_7
       try clear hfz9_8
       try clear hfz9_9
       try clear p2
       obtain ⟨x3_2, x4_2, rfl, HA, HK2, HO_3, BK279, HB⟩ := hrel
       cases gk with
       | zero => exact absurd HA.out (by simp [magnetoref04_Bits.l0])
       | succ k2 =>
        have H := HA.out
        clear HA
        simp only [magnetoref04_Bits.l0] at H
        by_cases c24 : x4_2 < a0_3
        ·
         rw [if_pos c24] at H
         have c24b0 : decide (x4_2 < a0_3) = true := decide_eq_true c24
         clear c24
         by_cases c25 : a0_2 = true
         ·
          subst c25
          have H1 : (some x3_2) = some r := by rw [if_pos rfl] at H; exact H
          clear H
          have H := H1
          clear H1
          obtain rfl := Option.some.inj H
          have hcz26_0 : wr.cell? ⟨gb279, 0, none⟩ = some (.int .i64 a0_0) := (zqab BK279.out 0).trans rfl
          have hcz26_1 : wr.cell? ⟨gb279, 1, none⟩ = some (.bool a0_1) := (zqab BK279.out 1).trans rfl
          have hcz26_2 : wr.cell? ⟨gb279, 2, none⟩ = some (.bool true) := (zqab BK279.out 2).trans rfl
          have hcz26_3 : wr.cell? ⟨gb279, 3, none⟩ = some (.int .i64 a0_3) := (zqab BK279.out 3).trans rfl
          have hcz26_4 : wr.cell? ⟨gb279, 4, none⟩ = some (.int .u8 a0_4) := (zqab BK279.out 4).trans rfl
          have hcz26_5 : wr.cell? ⟨gb279, 5, none⟩ = some (.int .u8 a0_5) := (zqab BK279.out 5).trans rfl
          have hcz26_6 : wr.cell? ⟨gb279, 6, none⟩ = some (.int .u8 a0_6) := (zqab BK279.out 6).trans rfl
          have hcz26_7 : wr.cell? ⟨gb279, 7, none⟩ = some (.int .u8 a0_7) := (zqab BK279.out 7).trans rfl
          have hcz26_8 : wr.cell? ⟨gb279, 8, none⟩ = some (.int .u8 a0_8) := (zqab BK279.out 8).trans rfl
          have hcz26_9 : wr.cell? ⟨gb279, 9, none⟩ = some (.int .u8 a0_9) := (zqab BK279.out 9).trans rfl
          have hcz26_10 : wr.cell? ⟨gb279, 10, none⟩ = some (.int .u8 a0_10) := (zqab BK279.out 10).trans rfl
          have hcz26_11 : wr.cell? ⟨gb279, 11, none⟩ = some (.int .u8 a0_11) := (zqab BK279.out 11).trans rfl
          have hfz26_0 := zqaa BK279.out 0
          have hfz26_1 := zqaa BK279.out 1
          have hfz26_2 := zqaa BK279.out 2
          have hfz26_3 := zqaa BK279.out 3
          have hfz26_4 := zqaa BK279.out 4
          have hfz26_5 := zqaa BK279.out 5
          have hfz26_6 := zqaa BK279.out 6
          have hfz26_7 := zqaa BK279.out 7
          have hfz26_8 := zqaa BK279.out 8
          have hfz26_9 := zqaa BK279.out 9
          have hfz26_10 := zqaa BK279.out 10
          have hfz26_11 := zqaa BK279.out 11
          go_wp2
          go_ret
          exact ⟨_, by first | rfl | (simp [errW_none, errW_some] <;> rfl) | (simp [*, errW_none, errW_some] <;> rfl), by (with_reducible repeat (first | apply Kd.R_alloc | apply Kd.R_drewN | apply Kd.R_drew)); exact HO_3.out, by repeat (with_reducible first | exact HB.out | apply zqad | apply zqac | apply zqae | refine zqah ?_ GE279.out)⟩
         ·
          replace c25 := Bool.eq_false_iff.mpr c25
          subst c25
          have H1 : (if 0 ≤ x4_2 then (if x4_2 < 8 then ((magnetoref04_digits.f k2 (wrap64 (rd ([a0_4, a0_5, a0_6, a0_7, a0_8, a0_9, a0_10, a0_11] : List Int) x4_2)) 8).bind fun t301 => (if x3_2.length + t301.length < 17592186044416 then (magnetoref04_Bits.l0 k2 (x3_2 ++ t301) (wrap64 (x4_2 + 1)) a0_0 a0_1 false a0_3 a0_4 a0_5 a0_6 a0_7 a0_8 a0_9 a0_10 a0_11) else (none))) else (none)) else (none)) = some r := by rw [if_neg (show ¬ (false = true) by decide)] at H; exact H
          clear H
          have H := H1
          clear H1
          by_cases c27 : 0 ≤ x4_2
          ·
           rw [if_pos c27] at H
           have c27b0 : decide (0 ≤ x4_2) = true := decide_eq_true c27
           clear c27
           by_cases c28 : x4_2 < 8
           ·
            rw [if_pos c28] at H
            have c28b0 : decide (x4_2 < 8) = true := decide_eq_true c28
            clear c28
            replace H := Option.bind_eq_some_iff.mp H
            obtain ⟨t301, A290, H⟩ := H
            replace H : (if x3_2.length + t301.length < 17592186044416 then (magnetoref04_Bits.l0 k2 (x3_2 ++ t301) (wrap64 (x4_2 + 1)) a0_0 a0_1 false a0_3 a0_4 a0_5 a0_6 a0_7 a0_8 a0_9 a0_10 a0_11) else (none)) = some r := H
            have A29 := Aside0.mk A290
            clear A290
            by_cases c30 : x3_2.length + t301.length < 17592186044416
            ·
             rw [if_pos c30] at H
             have LMc30 := Aside0.mk c30
             clear c30
             obtain ⟨y304, hy304⟩ : ∃ y_ : List Int, y_ = (x3_2 ++ t301) := ⟨_, rfl⟩
             replace H : (magnetoref04_Bits.l0 k2 y304 (wrap64 (x4_2 + 1)) a0_0 a0_1 false a0_3 a0_4 a0_5 a0_6 a0_7 a0_8 a0_9 a0_10 a0_11) = some r := by first | (rw [hy304]; with_reducible exact H) | (have H2_ := (Option.bind_some _ _).symm.trans H; rw [hy304]; with_reducible exact H2_) | (have H2_ := (Option.bind_some _ _).symm.trans H; with_reducible exact H2_) | with_reducible exact H | (rw [hy304]; exact H) | exact H
             have Ny304 := Aside0.mk hy304
             clear hy304
             have H' := Aside0.mk H
             clear H
             have hcz31_0 : wr.cell? ⟨gb279, 0, none⟩ = some (.int .i64 a0_0) := (zqab BK279.out 0).trans rfl
             have hcz31_1 : wr.cell? ⟨gb279, 1, none⟩ = some (.bool a0_1) := (zqab BK279.out 1).trans rfl
             have hcz31_2 : wr.cell? ⟨gb279, 2, none⟩ = some (.bool false) := (zqab BK279.out 2).trans rfl
             have hcz31_3 : wr.cell? ⟨gb279, 3, none⟩ = some (.int .i64 a0_3) := (zqab BK279.out 3).trans rfl
             have hcz31_4 : wr.cell? ⟨gb279, 4, none⟩ = some (.int .u8 a0_4) := (zqab BK279.out 4).trans rfl
             have hcz31_5 : wr.cell? ⟨gb279, 5, none⟩ = some (.int .u8 a0_5) := (zqab BK279.out 5).trans rfl
             have hcz31_6 : wr.cell? ⟨gb279, 6, none⟩ = some (.int .u8 a0_6) := (zqab BK279.out 6).trans rfl
             have hcz31_7 : wr.cell? ⟨gb279, 7, none⟩ = some (.int .u8 a0_7) := (zqab BK279.out 7).trans rfl
             have hcz31_8 : wr.cell? ⟨gb279, 8, none⟩ = some (.int .u8 a0_8) := (zqab BK279.out 8).trans rfl
             have hcz31_9 : wr.cell? ⟨gb279, 9, none⟩ = some (.int .u8 a0_9) := (zqab BK279.out 9).trans rfl
             have hcz31_10 : wr.cell? ⟨gb279, 10, none⟩ = some (.int .u8 a0_10) := (zqab BK279.out 10).trans rfl
             have hcz31_11 : wr.cell? ⟨gb279, 11, none⟩ = some (.int .u8 a0_11) := (zqab BK279.out 11).trans rfl
             have hfz31_0 := zqaa BK279.out 0
             have hfz31_1 := zqaa BK279.out 1
             have hfz31_2 := zqaa BK279.out 2
             have hfz31_3 := zqaa BK279.out 3
             have hfz31_4 := zqaa BK279.out 4
             have hfz31_5 := zqaa BK279.out 5
             have hfz31_6 := zqaa BK279.out 6
             have hfz31_7 := zqaa BK279.out 7
             have hfz31_8 := zqaa BK279.out 8
             have hfz31_9 := zqaa BK279.out 9
             have hfz31_10 := zqaa BK279.out 10
             have hfz31_11 := zqaa BK279.out 11
             have hcy32 : wr.cell? ⟨gb279, 4 + (x4_2 : Int).toNat, none⟩ = some (.int .u8 (rd ([a0_4, a0_5, a0_6, a0_7, a0_8, a0_9, a0_10, a0_11] : List Int) x4_2)) := arr_int .u8 4 ([a0_4, a0_5, a0_6, a0_7, a0_8, a0_9, a0_10, a0_11] : List Int) BK279.out rfl (x4_2 : Int) (of_decide_eq_true (by first | (with_reducible assumption) | assumption)) (of_decide_eq_true (by first | (with_reducible assumption) | assumption))
             have hfy32 := zqaa BK279.out (4 + (x4_2 : Int).toNat)
             have hpy32 : (0 ≤ (x4_2 : Int)) = True := eq_true (of_decide_eq_true (by first | (with_reducible assumption) | assumption))
             have hqy32 : ((x4_2 : Int) < 8) = True := eq_true (of_decide_eq_true (by first | (with_reducible assumption) | assumption))
             go_wp2_with (first | ((with_reducible refine zqal (f := 52) rfl ?_); refine goesL_ (some 39) rfl rfl Try.func52 (by kernel_rfl) rfl #[.int .i64 (wrap64 (rd ([a0_4, a0_5, a0_6, a0_7, a0_8, a0_9, a0_10, a0_11] : List Int) x4_2)), .int .i64 8] rfl (by (try simp only [List.map_toArray, List.map_cons, List.map_nil]); first | done | rfl | (simp only [List.length_drop, List.length_take]; rfl)) ?_; (with_reducible refine (magnetoref04_digits.calls k2 (wrap64 (rd ([a0_4, a0_5, a0_6, a0_7, a0_8, a0_9, a0_10, a0_11] : List Int) x4_2)) 8 t301 _ A29.out).mono ?_); rintro e w33 ⟨v302, rfl, ho0, hb⟩; refine ⟨_, rfl, ?_⟩; have n0_ := Aside0.mk (Kd.R_elder' (by (with_reducible repeat (first | apply Kd.R_alloc | apply Kd.R_drewN | apply Kd.R_drew)); exact HO_3.out) (Kd.R_base ho0) hb); have n1_ := Aside0.mk (Kd.R_lower (Kd.R_new' ho0 (Kd.R_lt (by (with_reducible repeat (first | apply Kd.R_alloc | apply Kd.R_drewN | apply Kd.R_drew)); exact HO_3.out))) (zqaj (by repeat (with_reducible first | exact HB.out | apply zqad | apply zqac | apply zqae | refine zqah ?_ GE279.out)))); have n2_ := Aside0.mk (zqam (g := gb279) (o := .cells #[.int .i64 a0_0, .bool a0_1, .bool false, .int .i64 a0_3, .int .u8 a0_4, .int .u8 a0_5, .int .u8 a0_6, .int .u8 a0_7, .int .u8 a0_8, .int .u8 a0_9, .int .u8 a0_10, .int .u8 a0_11] 24 (0, 0)) (by (with_reducible repeat (first | refine zqag ?_ _ | refine zqai ?_ | refine zqaf ?_ _)); exact BK279.out) hb); have n3_ := Aside0.mk (zqak (by repeat (with_reducible first | exact HB.out | apply zqad | apply zqac | apply zqae | refine zqah ?_ GE279.out)) hb); clear HO_3; clear BK279; clear HB; have HO_3 := n0_; have HO303 := n1_; have BK279 := n2_; have HB := n3_; clear n0_ n1_ n2_ n3_; (try clear hb); (try clear hb2); (try clear hk); (try clear hi); (try clear ho0); obtain ⟨Ao35, co35, eo35⟩ := Kd.R_slice HO303.out; subst eo35) | ((with_reducible refine zqao (b := .append) (xs := #[.tmp 33, .tmp 39]) rfl ?_); at_builtin; refine Kd.R_append_rows (Kd.int .i64) (w0 := w) w.heap.size rfl (.tmp 33) (.tmp 39) 25 3 (.int .i64 0) 8 rfl Try.underlying25 info3 rfl (by decide) (by omega) u3 x3_2 t301 _ _ _ (fun k_ => some k_ ≠ (.slice Ao35 t301.length co35 : Value).ownBlock) (fun _ => False) rfl rfl ?aO ?aR (fun _ _ h => h) (fun _ h => h.elim) ?aF ?aB ?aS ?aL ?_; (case aR => repeat (first | exact (Kd.R_reads' HO303.out).2.2 | (with_reducible refine Kd.C_alloc ?_ _) | (with_reducible refine Kd.C_drewN ?_ _) | (with_reducible refine Kd.C_drew ?_))); (case aB => exact (by repeat (with_reducible first | exact HB.out | apply zqad | apply zqac | apply zqae | refine zqah ?_ GE279.out))); (case aF => exact (fun k_ hk => Kd.fresh' (Kd.R_lt (by (with_reducible repeat (first | apply Kd.R_alloc | apply Kd.R_drewN | apply Kd.R_drew)); exact HO303.out)) k_ hk)); (case aO => exact (by (with_reducible repeat (first | apply Kd.R_alloc | apply Kd.R_drewN | apply Kd.R_drew)); exact Kd.R_mono HO_3.out (fun _ hk => hk.2))); (case aS => exact (zqaj (by repeat (with_reducible first | exact HB.out | apply zqad | apply zqac | apply zqae | refine zqah ?_ GE279.out)))); (case aL => have := LMc30.out; omega); intro v305 w34 ho hb hg hat; rw [← Ny304.out] at ho; have n0_ := Aside0.mk (zqaw (g := gb279) (o := .cells #[.int .i64 a0_0, .bool a0_1, .bool false, .int .i64 a0_3, .int .u8 a0_4, .int .u8 a0_5, .int .u8 a0_6, .int .u8 a0_7, .int .u8 a0_8, .int .u8 a0_9, .int .u8 a0_10, .int .u8 a0_11] 24 (0, 0)) (by (with_reducible repeat (first | refine zqag ?_ _ | refine zqai ?_ | refine zqaf ?_ _)); exact BK279.out) hg (Kd.R_ne HO_3.out BK279.out (by decide))); have n1_ := Aside0.mk (Kd.R_after (ok := (fun _ => True)) (by (with_reducible repeat (first | apply Kd.R_alloc | apply Kd.R_drewN | apply Kd.R_drew)); exact HO303.out) hg hat); have n2_ := Aside0.mk (hb); have n3_ := Aside0.mk (ho); clear BK279; clear HO303; clear HB; clear HO_3; have BK279 := n0_; have HO303 := n1_; have HB := n2_; have HO306 := n3_; clear n0_ n1_ n2_ n3_; clear ho hb hg hat))
             go_roundg k2
             case measure => have := HJ4.out; have := HK2.out; omega
             case rel => exact ⟨(y304), (wrap64 (x4_2 + 1)), (by first | rfl | (simp; done) | (simp [*]; done)), H', ⟨by have := HJ4.out; have := HK2.out; omega⟩, ⟨by (with_reducible repeat (first | apply Kd.R_alloc | apply Kd.R_drewN | apply Kd.R_drew)); exact Kd.R_mono HO306.out (fun _ hk => trivial)⟩, ⟨by (with_reducible repeat (first | refine zqag ?_ _ | refine zqai ?_ | refine zqaf ?_ _)); exact BK279.out⟩, ⟨by repeat (with_reducible first | exact HB.out | apply zqad | apply zqac | apply zqae | refine zqah ?_ GE279.out)⟩⟩
            ·
             rw [if_neg c30] at H
             exact absurd H (by simp)
           ·
            rw [if_neg c28] at H
            exact absurd H (by simp)
          ·
           rw [if_neg c27] at H
           exact absurd H (by simp)
        ·
         rw [if_neg c24] at H
         have c24b0 : decide (x4_2 < a0_3) = false := decide_eq_false c24
         clear c24
         obtain rfl := Option.some.inj H
         have hcz36_0 : wr.cell? ⟨gb279, 0, none⟩ = some (.int .i64 a0_0) := (zqab BK279.out 0).trans rfl
         have hcz36_1 : wr.cell? ⟨gb279, 1, none⟩ = some (.bool a0_1) := (zqab BK279.out 1).trans rfl
         have hcz36_2 : wr.cell? ⟨gb279, 2, none⟩ = some (.bool a0_2) := (zqab BK279.out 2).trans rfl
         have hcz36_3 : wr.cell? ⟨gb279, 3, none⟩ = some (.int .i64 a0_3) := (zqab BK279.out 3).trans rfl
         have hcz36_4 : wr.cell? ⟨gb279, 4, none⟩ = some (.int .u8 a0_4) := (zqab BK279.out 4).trans rfl
         have hcz36_5 : wr.cell? ⟨gb279, 5, none⟩ = some (.int .u8 a0_5) := (zqab BK279.out 5).trans rfl
         have hcz36_6 : wr.cell? ⟨gb279, 6, none⟩ = some (.int .u8 a0_6) := (zqab BK279.out 6).trans rfl
         have hcz36_7 : wr.cell? ⟨gb279, 7, none⟩ = some (.int .u8 a0_7) := (zqab BK279.out 7).trans rfl
         have hcz36_8 : wr.cell? ⟨gb279, 8, none⟩ = some (.int .u8 a0_8) := (zqab BK279.out 8).trans rfl
         have hcz36_9 : wr.cell? ⟨gb279, 9, none⟩ = some (.int .u8 a0_9) := (zqab BK279.out 9).trans rfl
         have hcz36_10 : wr.cell? ⟨gb279, 10, none⟩ = some (.int .u8 a0_10) := (zqab BK279.out 10).trans rfl
         have hcz36_11 : wr.cell? ⟨gb279, 11, none⟩ = some (.int .u8 a0_11) := (zqab BK279.out 11).trans rfl
         have hfz36_0 := zqaa BK279.out 0
         have hfz36_1 := zqaa BK279.out 1
         have hfz36_2 := zqaa BK279.out 2
         have hfz36_3 := zqaa BK279.out 3
         have hfz36_4 := zqaa BK279.out 4
         have hfz36_5 := zqaa BK279.out 5
         have hfz36_6 := zqaa BK279.out 6
         have hfz36_7 := zqaa BK279.out 7
         have hfz36_8 := zqaa BK279.out 8
         have hfz36_9 := zqaa BK279.out 9
         have hfz36_10 := zqaa BK279.out 10
         have hfz36_11 := zqaa BK279.out 11
         go_wp2
         go_ret
         exact ⟨_, by first | rfl | (simp [errW_none, errW_some] <;> rfl) | (simp [*, errW_none, errW_some] <;> rfl), by (with_reducible repeat (first | apply Kd.R_alloc | apply Kd.R_drewN | apply Kd.R_drew)); exact HO_3.out, by repeat (with_reducible first | exact HB.out | apply zqad | apply zqac | apply zqae | refine zqah ?_ GE279.out)⟩
     ·
      rw [if_neg c19] at H
      exact absurd H (by simp)
  ·
   rw [if_neg c4] at H
   exact absurd H (by simp)
 ·
  rw [if_neg c3] at H
  exact absurd H (by simp)

/-! ### magnetoref02_Poly: function 87 -/
def magnetoref02_Poly.f  : Option (List Int) := some (([1, 0, 0, 0, 1, 0, 1, 1, 0, 0, 1, 1, 0, 0, 1] : List Int))
set_option maxHeartbeats 8000000 in
set_option maxRecDepth 100000 in
theorem magnetoref02_Poly.calls  (r : List Int) (w : World) (h : magnetoref02_Poly.f  = some r) :
  Calls Try.prog 87 #[] w fun e w' => ∃ v0_ : Value, e = .returned (v0_) ∧ Kd.R (Kd.int .i64) 3 w' w.heap.size (fun _ => True) v0_ r ∧ Below w.heap.size w w' := by
 have HB := Aside0.mk (Below.refl w.heap.size w)
 have H : (some (([1, 0, 0, 0, 1, 0, 1, 1, 0, 0, 1, 1, 0, 0, 1] : List Int))) = some r := h
 clear h
 obtain ⟨y307, hy307⟩ : ∃ y_ : List Int, y_ = (([1, 0, 0, 0, 1, 0, 1, 1, 0, 0, 1, 1, 0, 0, 1] : List Int)) := ⟨_, rfl⟩
 replace H : (some y307) = some r := by first | (rw [hy307]; with_reducible exact H) | (have H2_ := (Option.bind_some _ _).symm.trans H; rw [hy307]; with_reducible exact H2_) | (have H2_ := (Option.bind_some _ _).symm.trans H; with_reducible exact H2_) | with_reducible exact H | (rw [hy307]; exact H) | exact H
 have Ny307 := Aside0.mk hy307
 clear hy307
 obtain rfl := Option.some.inj H
 go_enter Try.func87, Try.ntmps87
 go_wp2_with (first | ((with_reducible refine zqar (N := 1) rfl ?_); refine Kd.R_lit (Kd.int .i64) _ 3 ?hg (N := 1) ?hd (xs := ([1, 0, 0, 0, 1, 0, 1, 1, 0, 0, 1, 1, 0, 0, 1] : List Int)) (inner := [.int .i64 1, .int .i64 0, .int .i64 0, .int .i64 0, .int .i64 1, .int .i64 0, .int .i64 1, .int .i64 1, .int .i64 0, .int .i64 0, .int .i64 1, .int .i64 1, .int .i64 0, .int .i64 0, .int .i64 1]) (ok := fun _ => True) (okp := fun _ => True) ?hr ?hp (fun _ hk => hk) trivial (Below.refl _ _) (Nat.le_refl _) (by simp) ?_; (case hd => rfl); (case hg => rfl); (case hr => first | (go_simp; done) | (go_simp; rfl)); (case hp => exact (Reps.one (show Kd.M (Kd.int .i64) _ _ _ 1 [.int .i64 1] from rfl) (Reps.one (show Kd.M (Kd.int .i64) _ _ _ 0 [.int .i64 0] from rfl) (Reps.one (show Kd.M (Kd.int .i64) _ _ _ 0 [.int .i64 0] from rfl) (Reps.one (show Kd.M (Kd.int .i64) _ _ _ 0 [.int .i64 0] from rfl) (Reps.one (show Kd.M (Kd.int .i64) _ _ _ 1 [.int .i64 1] from rfl) (Reps.one (show Kd.M (Kd.int .i64) _ _ _ 0 [.int .i64 0] from rfl) (Reps.one (show Kd.M (Kd.int .i64) _ _ _ 1 [.int .i64 1] from rfl) (Reps.one (show Kd.M (Kd.int .i64) _ _ _ 1 [.int .i64 1] from rfl) (Reps.one (show Kd.M (Kd.int .i64) _ _ _ 0 [.int .i64 0] from rfl) (Reps.one (show Kd.M (Kd.int .i64) _ _ _ 0 [.int .i64 0] from rfl) (Reps.one (show Kd.M (Kd.int .i64) _ _ _ 1 [.int .i64 1] from rfl) (Reps.one (show Kd.M (Kd.int .i64) _ _ _ 1 [.int .i64 1] from rfl) (Reps.one (show Kd.M (Kd.int .i64) _ _ _ 0 [.int .i64 0] from rfl) (Reps.one (show Kd.M (Kd.int .i64) _ _ _ 0 [.int .i64 0] from rfl) (Reps.one (show Kd.M (Kd.int .i64) _ _ _ 1 [.int .i64 1] from rfl) (Reps.none _ _))))))))))))))))); intro v308 w1 ho2 hb hg_ hnew_; clear hg_ hnew_; (first | rw [← Ny307.out] at ho2 | (simp only [Int.reduceToNat] at ho2; rw [← Ny307.out] at ho2)); have n0_ := Aside0.mk (Kd.R_lower ho2 (zqaj (by repeat (with_reducible first | exact HB.out | apply zqad | apply zqac | apply zqae)))); have n1_ := Aside0.mk (zqak (by repeat (with_reducible first | exact HB.out | apply zqad | apply zqac | apply zqae)) hb); clear HB; have HO309 := n0_; have HB := n1_; clear n0_ n1_; clear hb ho2))
 go_ret
 exact ⟨_, by first | rfl | (simp [errW_none, errW_some] <;> rfl) | (simp [*, errW_none, errW_some] <;> rfl), by (with_reducible repeat (first | apply Kd.R_alloc | apply Kd.R_drewN | apply Kd.R_drew)); exact HO309.out, by repeat (with_reducible first | exact HB.out | apply zqad | apply zqac | apply zqae)⟩

/-! ### magnetoref02_Behind: function 80 -/
def magnetoref02_Behind.l0 : Nat → List Int → Int → List Int → List Int → Int → Option (List Int)
 | 0, _, _, _, _, _ => none
 | k + 1, x0, x5, x6, x7, x8 => if x8 < 15 then (if x8 < 14 then (if 0 ≤ (wrap64 (x8 + 1)) then (if (wrap64 (x8 + 1)) < (x0.length : Int) then (if 0 ≤ x8 then (if x8 < (x7.length : Int) then (if x6.length < 17592186044416 then (magnetoref02_Behind.l0 k x0 x5 (x6 ++ [Int.tmod (wrap64 ((rd x0 (wrap64 (x8 + 1))) + (wrap64 (x5 * (rd x7 x8))))) 2]) x7 (wrap64 (x8 + 1))) else (none)) else (none)) else (none)) else (none)) else (none)) else (if 0 ≤ x8 then (if x8 < (x7.length : Int) then (if x6.length < 17592186044416 then (magnetoref02_Behind.l0 k x0 x5 (x6 ++ [Int.tmod (wrap64 ((wrap64 (x5 * (rd x7 x8))))) 2]) x7 (wrap64 (x8 + 1))) else (none)) else (none)) else (none))) else (some x6)
def magnetoref02_Behind.f (k : Nat) (l0 : List Int) (a1 : Int) : Option (List Int) := if 0 < (l0.length : Int) then ((magnetoref02_Poly.f).bind fun t314 => (magnetoref02_Behind.l0 k l0 (Int.tmod (wrap64 ((rd l0 0) + a1)) 2) (([] : List Int)) t314 0)) else (none)
theorem magnetoref02_Behind.mono_l : ∀ k, (∀ y0 y1 y2 y3 y4, LeO (magnetoref02_Behind.l0 k y0 y1 y2 y3 y4) (magnetoref02_Behind.l0 (k + 1) y0 y1 y2 y3 y4))
 | 0 => fun _ _ _ _ _ r h => by simp [magnetoref02_Behind.l0] at h
 | k + 1 => by
  have ih0 := magnetoref02_Behind.mono_l k
  ·
   intro y0 y1 y2 y3 y4
   unfold magnetoref02_Behind.l0
   repeat' first
   | (with_reducible exact ih0 _ _ _ _ _)
   | (with_reducible exact LeO.refl _)
   | (with_reducible exact LeO.none _)
   | (with_reducible refine LeO.ite ?_ ?_)
   | (with_reducible refine LeO.bind ?_ (fun _ => ?_))
   | exact ih0 _ _ _ _ _
   | exact LeO.none _
   | refine LeO.ite ?_ ?_
   | refine LeO.bind ?_ (fun _ => ?_)
theorem magnetoref02_Behind.mono : ∀ a0 a1 k, LeO (magnetoref02_Behind.f k a0 a1) (magnetoref02_Behind.f (k + 1) a0 a1) := by
 intro a0 a1 k
 have ih0 := magnetoref02_Behind.mono_l k
 unfold magnetoref02_Behind.f
 repeat' first
   | (with_reducible exact ih0 _ _ _ _ _)
   | (with_reducible exact LeO.refl _)
   | (with_reducible exact LeO.none _)
   | (with_reducible refine LeO.ite ?_ ?_)
   | (with_reducible refine LeO.bind ?_ (fun _ => ?_))
   | exact ih0 _ _ _ _ _
   | exact LeO.none _
   | refine LeO.ite ?_ ?_
   | refine LeO.bind ?_ (fun _ => ?_)
set_option maxHeartbeats 8000000 in
set_option maxRecDepth 100000 in
theorem magnetoref02_Behind.calls (k : Nat) (A0 : Option Addr) (c0 : Nat) (l0 : List Int) (a1 : Int) (r : List Int) (w : World) (hr0 : Kd.C (Kd.int .i64) w A0 l0.length l0) (hc0 : l0.length ≤ c0) (h : magnetoref02_Behind.f k l0 a1 = some r) :
  Calls Try.prog 80 #[.slice A0 l0.length c0, .int .i64 a1] w fun e w' => ∃ v0_ : Value, e = .returned (v0_) ∧ Kd.R (Kd.int .i64) 3 w' w.heap.size (fun _ => True) v0_ r ∧ Below w.heap.size w w' := by
 have HR0 := Aside0.mk hr0
 have HC0 := Aside0.mk hc0
 clear hr0 hc0
 have HB := Aside0.mk (Below.refl w.heap.size w)
 have H : (if 0 < (l0.length : Int) then ((magnetoref02_Poly.f).bind fun t314 => (magnetoref02_Behind.l0 k l0 (Int.tmod (wrap64 ((rd l0 0) + a1)) 2) (([] : List Int)) t314 0)) else (none)) = some r := h
 clear h
 by_cases c3 : 0 < (l0.length : Int)
 ·
  rw [if_pos c3] at H
  have c3b0 : decide (0 < (l0.length : Int)) = true := decide_eq_true c3
  have c3b1 : decide (0 < l0.length) = true := decide_eq_true (by omega)
  clear c3
  obtain ⟨y311, hy311⟩ : ∃ y_ : List Int, y_ = (([] : List Int)) := ⟨_, rfl⟩
  replace H : ((magnetoref02_Poly.f).bind fun t314 => (magnetoref02_Behind.l0 k l0 (Int.tmod (wrap64 ((rd l0 0) + a1)) 2) y311 t314 0)) = some r := by first | (rw [hy311]; with_reducible exact H) | (have H2_ := (Option.bind_some _ _).symm.trans H; rw [hy311]; with_reducible exact H2_) | (have H2_ := (Option.bind_some _ _).symm.trans H; with_reducible exact H2_) | with_reducible exact H | (rw [hy311]; exact H) | exact H
  have Ny311 := Aside0.mk hy311
  clear hy311
  replace H := Option.bind_eq_some_iff.mp H
  obtain ⟨t314, A40, H⟩ := H
  replace H : (magnetoref02_Behind.l0 k l0 (Int.tmod (wrap64 ((rd l0 0) + a1)) 2) y311 t314 0) = some r := H
  have A4 := Aside0.mk A40
  clear A40
  have H' := Aside0.mk H
  clear H
  have p310 : 0 ≤ (0 : Int) := (by omega)
  have q310 : 0 < (l0.length : Int) := of_decide_eq_true (by first | (with_reducible assumption) | assumption)
  obtain ⟨ad310, e310, hx310_0⟩ := Kd.at_int HR0.out 0 p310 q310
  cases e310
  have qi310 : (0 < l0.length) = True := eq_true (by omega)
  (try rw [show ((0 : Int)).toNat = 0 from rfl] at hx310_0)
  (try rw [Addr.add_zero'] at hx310_0)
  replace p310 := eq_true p310
  replace q310 := eq_true q310
  go_enter Try.func80, Try.ntmps80
  go_wp2_with (first | ((with_reducible refine zqar (N := 16) rfl ?_); refine Kd.R_lit (Kd.int .i64) _ 3 ?hg (N := 16) ?hd (xs := ([] : List Int)) (inner := []) (ok := fun _ => True) (okp := fun _ => True) ?hr ?hp (fun _ hk => hk) trivial (Below.refl _ _) (Nat.le_refl _) (by simp) ?_; (case hd => rfl); (case hg => rfl); (case hr => first | (go_simp; done) | (go_simp; rfl)); (case hp => exact (Reps.none _ _)); intro v312 w5 ho6 hb hg_ hnew_; clear hg_ hnew_; (first | rw [← Ny311.out] at ho6 | (simp only [Int.reduceToNat] at ho6; rw [← Ny311.out] at ho6)); have n0_ := Aside0.mk (Kd.R_lower ho6 (zqaj (by repeat (with_reducible first | exact HB.out | apply zqad | apply zqac | apply zqae)))); have n1_ := Aside0.mk (zqak (by repeat (with_reducible first | exact HB.out | apply zqad | apply zqac | apply zqae)) hb); clear HB; have HO313 := n0_; have HB := n1_; clear n0_ n1_; clear hb ho6) | ((with_reducible refine zqal (f := 87) rfl ?_); refine goesL_ (some 17) rfl rfl Try.func87 (by kernel_rfl) rfl #[] rfl (by (try simp only [List.map_toArray, List.map_cons, List.map_nil]); first | done | rfl | (simp only [List.length_drop, List.length_take]; rfl)) ?_; (with_reducible refine (magnetoref02_Poly.calls  t314 _ A4.out).mono ?_); rintro e w7 ⟨v315, rfl, ho0, hb⟩; refine ⟨_, rfl, ?_⟩; have n0_ := Aside0.mk (Kd.R_elder' (by (with_reducible repeat (first | apply Kd.R_alloc | apply Kd.R_drewN | apply Kd.R_drew)); exact HO313.out) (Kd.R_base ho0) hb); have n1_ := Aside0.mk (Kd.R_lower (Kd.R_new' ho0 (Kd.R_lt (by (with_reducible repeat (first | apply Kd.R_alloc | apply Kd.R_drewN | apply Kd.R_drew)); exact HO313.out))) (zqaj (by repeat (with_reducible first | exact HB.out | apply zqad | apply zqac | apply zqae)))); have n2_ := Aside0.mk (zqak (by repeat (with_reducible first | exact HB.out | apply zqad | apply zqac | apply zqae)) hb); clear HO313; clear HB; have HO313 := n0_; have HO316 := n1_; have HB := n2_; clear n0_ n1_ n2_; (try clear hb); (try clear hb2); (try clear hk); (try clear hi); (try clear ho0)))
  go_loopg [6, 8] k (fun kq v6 v8 w' => ∃ (x6_1 : List Int) (x8_1 : Int), v8 = .int .i64 x8_1 ∧ Aside0 (magnetoref02_Behind.l0 kq l0 (Int.tmod (wrap64 ((rd l0 0) + a1)) 2) x6_1 t314 x8_1 = some r) ∧ Aside0 (kq ≤ k) ∧ Aside0 (Kd.R (Kd.int .i64) 3 w' w.heap.size (fun k_ => some k_ ≠ (v315 : Value).ownBlock) v6 x6_1) ∧ Aside0 (Kd.R (Kd.int .i64) 3 w' w.heap.size (fun k_ => some k_ ≠ (v6 : Value).ownBlock) v315 t314) ∧ Aside0 (Below w.heap.size w w'))
  case atStart => exact ⟨(y311), (0), (by first | rfl | (simp; done) | (simp [*]; done)), H', ⟨Nat.le_refl _⟩, ⟨by (with_reducible repeat (first | apply Kd.R_alloc | apply Kd.R_drewN | apply Kd.R_drew)); exact Kd.R_mono HO313.out (fun _ hk => hk.2)⟩, ⟨by (with_reducible repeat (first | apply Kd.R_alloc | apply Kd.R_drewN | apply Kd.R_drew)); exact Kd.R_mono HO316.out (fun _ hk => hk.2)⟩, ⟨by repeat (with_reducible first | exact HB.out | apply zqad | apply zqac | apply zqae)⟩⟩
  case round =>
   clear H'
   try clear p2
   try clear c3
   try clear c3b0
   try clear c3b1
   try clear p3
   try clear q3
   try clear hx3
   try clear qi3
   try clear p6
   try clear hx310_0
   try clear p310
   try clear q310
   obtain ⟨x6_1, x8_1, rfl, HA, HK1, HO_6, HO_7, HB⟩ := hrel
   cases gk with
   | zero => exact absurd HA.out (by simp [magnetoref02_Behind.l0])
   | succ k1 =>
    have H := HA.out
    clear HA
    simp only [magnetoref02_Behind.l0] at H
    by_cases c8 : x8_1 < 15
    ·
     rw [if_pos c8] at H
     have c8b0 : decide (x8_1 < 15) = true := decide_eq_true c8
     clear c8
     by_cases c9 : x8_1 < 14
     ·
      rw [if_pos c9] at H
      have c9b0 : decide (x8_1 < 14) = true := decide_eq_true c9
      clear c9
      obtain ⟨ji10, hji10⟩ : ∃ j_ : Int, (wrap64 (x8_1 + 1)) = j_ := ⟨_, rfl⟩
      replace H : (if 0 ≤ (ji10) then (if (ji10) < (l0.length : Int) then (if 0 ≤ x8_1 then (if x8_1 < (t314.length : Int) then (if x6_1.length < 17592186044416 then (magnetoref02_Behind.l0 k1 l0 (Int.tmod (wrap64 ((rd l0 0) + a1)) 2) (x6_1 ++ [Int.tmod (wrap64 ((rd l0 (ji10)) + (wrap64 ((Int.tmod (wrap64 ((rd l0 0) + a1)) 2) * (rd t314 x8_1))))) 2]) t314 ji10) else (none)) else (none)) else (none)) else (none)) else (none)) = some r := by first | (rw [hji10] at H; exact H) | (simp only [hji10] at H ⊢; exact H)
      have hji10w : (IntKind.i64.wrap (x8_1 + 1)) = ji10 := (i64_w _).trans hji10
      by_cases c11 : 0 ≤ (ji10)
      ·
       rw [if_pos c11] at H
       have c11b0 : decide (0 ≤ (ji10)) = true := decide_eq_true c11
       clear c11
       by_cases c12 : (ji10) < (l0.length : Int)
       ·
        rw [if_pos c12] at H
        have c12b0 : decide ((ji10) < (l0.length : Int)) = true := decide_eq_true c12
        clear c12
        by_cases c13 : 0 ≤ x8_1
        ·
         rw [if_pos c13] at H
         have c13b0 : decide (0 ≤ x8_1) = true := decide_eq_true c13
         clear c13
         by_cases c14 : x8_1 < (t314.length : Int)
         ·
          rw [if_pos c14] at H
          have c14b0 : decide (x8_1 < (t314.length : Int)) = true := decide_eq_true c14
          clear c14
          by_cases c15 : x6_1.length < 17592186044416
          ·
           rw [if_pos c15] at H
           have LMc15 := Aside0.mk c15
           clear c15
           obtain ⟨y319, hy319⟩ : ∃ y_ : List Int, y_ = (x6_1 ++ [Int.tmod (wrap64 ((rd l0 (ji10)) + (wrap64 ((Int.tmod (wrap64 ((rd l0 0) + a1)) 2) * (rd t314 x8_1))))) 2]) := ⟨_, rfl⟩
           replace H : (magnetoref02_Behind.l0 k1 l0 (Int.tmod (wrap64 ((rd l0 0) + a1)) 2) y319 t314 ji10) = some r := by first | (rw [hy319]; with_reducible exact H) | (have H2_ := (Option.bind_some _ _).symm.trans H; rw [hy319]; with_reducible exact H2_) | (have H2_ := (Option.bind_some _ _).symm.trans H; with_reducible exact H2_) | with_reducible exact H | (rw [hy319]; exact H) | exact H
           have Ny319 := Aside0.mk hy319
           clear hy319
           have H' := Aside0.mk H
           clear H
           have p317 : 0 ≤ ((ji10) : Int) := of_decide_eq_true (by first | (with_reducible assumption) | assumption)
           have q317 : (ji10) < (l0.length : Int) := of_decide_eq_true (by first | (with_reducible assumption) | assumption)
           obtain ⟨ad317, e317, hx317_0⟩ := Kd.at_int HR0.out (ji10) p317 q317
           obtain rfl : ad310 = ad317 := (by injection e317)
           replace hx317_0 := (HB.out.cell (World.block_lt_of_cell? w _ hx317_0)).trans hx317_0
           replace p317 := eq_true p317
           replace q317 := eq_true q317
           obtain ⟨Ao16, co16, eo16⟩ := Kd.R_slice HO_7.out
           subst eo16
           have p318 : 0 ≤ (x8_1 : Int) := of_decide_eq_true (by first | (with_reducible assumption) | assumption)
           have q318 : x8_1 < (t314.length : Int) := of_decide_eq_true (by first | (with_reducible assumption) | assumption)
           obtain ⟨ad318, e318, hx318_0⟩ := Kd.at_int (Kd.R_reads' HO_7.out).2.2 x8_1 p318 q318
           cases e318
           replace p318 := eq_true p318
           replace q318 := eq_true q318
           go_wp2_with (first | ((with_reducible refine zqao (b := .append) (xs := #[.tmp 29, .tmp 39]) rfl ?_); at_builtin; refine Kd.R_append (Kd.int .i64) (w0 := w) w.heap.size rfl (.tmp 29) (.tmp 39) 25 3 (.int .i64 0) 8 rfl Try.underlying25 info3 rfl (by decide) (by omega) u6 x6_1 (Int.tmod (wrap64 ((rd l0 (ji10)) + (wrap64 ((Int.tmod (wrap64 ((rd l0 0) + a1)) 2) * (rd t314 x8_1))))) 2) [.int .i64 (Int.tmod (wrap64 ((rd l0 (ji10)) + (wrap64 ((Int.tmod (wrap64 ((rd l0 0) + a1)) 2) * (rd t314 x8_1))))) 2)] (fun k_ => some k_ ≠ (.slice (some ad318) t314.length co16 : Value).ownBlock) (fun _ => False) rfl rfl ?aP (fun _ hk => hk.elim) ?aF ?aO ?aB ?aS ?aL ?_; (case aP => exact rfl); (case aB => exact (by repeat (with_reducible first | exact HB.out | apply zqad | apply zqac | apply zqae))); (case aF => exact (fun k_ hk => Kd.fresh' (Kd.R_lt (by (with_reducible repeat (first | apply Kd.R_alloc | apply Kd.R_drewN | apply Kd.R_drew)); exact HO_7.out)) k_ hk)); (case aO => exact (by (with_reducible repeat (first | apply Kd.R_alloc | apply Kd.R_drewN | apply Kd.R_drew)); exact HO_6.out)); (case aS => exact (zqaj (by repeat (with_reducible first | exact HB.out | apply zqad | apply zqac | apply zqae)))); (case aL => have := LMc15.out; omega); intro v320 w17 ho hb hg hat; rw [← Ny319.out] at ho; have n0_ := Aside0.mk (Kd.R_after (ok := (fun _ => True)) (by (with_reducible repeat (first | apply Kd.R_alloc | apply Kd.R_drewN | apply Kd.R_drew)); exact Kd.R_mono HO_7.out (fun _ hk => ⟨trivial, hk⟩)) hg hat); have n1_ := Aside0.mk (hb); have n2_ := Aside0.mk (ho); clear HO_7; clear HB; clear HO_6; have HO_7 := n0_; have HB := n1_; have HO321 := n2_; clear n0_ n1_ n2_; clear ho hb hg hat))
           go_roundg k1
           case measure => have := HK1.out; omega
           case rel => exact ⟨(y319), (ji10), (by first | rfl | (simp; done) | (simp only [← hji10] <;> (first | rfl | simp)) | (simp [*]; done)), H', ⟨by have := HK1.out; omega⟩, ⟨by (with_reducible repeat (first | apply Kd.R_alloc | apply Kd.R_drewN | apply Kd.R_drew)); exact HO321.out⟩, ⟨by (with_reducible repeat (first | apply Kd.R_alloc | apply Kd.R_drewN | apply Kd.R_drew)); exact Kd.R_mono HO_7.out (fun _ hk => hk.2)⟩, ⟨by repeat (with_reducible first | exact HB.out | apply zqad | apply zqac | apply zqae)⟩⟩
          ·
           rw [if_neg c15] at H
           exact absurd H (by simp)
         ·
          rw [if_neg c14] at H
          exact absurd H (by simp)
        ·
         rw [if_neg c13] at H
         exact absurd H (by simp)
       ·
        rw [if_neg c12] at H
        exact absurd H (by simp)
      ·
       rw [if_neg c11] at H
       exact absurd H (by simp)
     ·
      rw [if_neg c9] at H
      have c9b0 : decide (x8_1 < 14) = false := decide_eq_false c9
      clear c9
      by_cases c18 : 0 ≤ x8_1
      ·
       rw [if_pos c18] at H
       have c18b0 : decide (0 ≤ x8_1) = true := decide_eq_true c18
       clear c18
       by_cases c19 : x8_1 < (t314.length : Int)
       ·
        rw [if_pos c19] at H
        have c19b0 : decide (x8_1 < (t314.length : Int)) = true := decide_eq_true c19
        clear c19
        by_cases c20 : x6_1.length < 17592186044416
        ·
         rw [if_pos c20] at H
         have LMc20 := Aside0.mk c20
         clear c20
         obtain ⟨y323, hy323⟩ : ∃ y_ : List Int, y_ = (x6_1 ++ [Int.tmod (wrap64 ((wrap64 ((Int.tmod (wrap64 ((rd l0 0) + a1)) 2) * (rd t314 x8_1))))) 2]) := ⟨_, rfl⟩
         replace H : (magnetoref02_Behind.l0 k1 l0 (Int.tmod (wrap64 ((rd l0 0) + a1)) 2) y323 t314 (wrap64 (x8_1 + 1))) = some r := by first | (rw [hy323]; with_reducible exact H) | (have H2_ := (Option.bind_some _ _).symm.trans H; rw [hy323]; with_reducible exact H2_) | (have H2_ := (Option.bind_some _ _).symm.trans H; with_reducible exact H2_) | with_reducible exact H | (rw [hy323]; exact H) | exact H
         have Ny323 := Aside0.mk hy323
         clear hy323
         have H' := Aside0.mk H
         clear H
         obtain ⟨Ao21, co21, eo21⟩ := Kd.R_slice HO_7.out
         subst eo21
         have p322 : 0 ≤ (x8_1 : Int) := of_decide_eq_true (by first | (with_reducible assumption) | assumption)
         have q322 : x8_1 < (t314.length : Int) := of_decide_eq_true (by first | (with_reducible assumption) | assumption)
         obtain ⟨ad322, e322, hx322_0⟩ := Kd.at_int (Kd.R_reads' HO_7.out).2.2 x8_1 p322 q322
         cases e322
         replace p322 := eq_true p322
         replace q322 := eq_true q322
         go_wp2_with (first | ((with_reducible refine zqao (b := .append) (xs := #[.tmp 29, .tmp 39]) rfl ?_); at_builtin; refine Kd.R_append (Kd.int .i64) (w0 := w) w.heap.size rfl (.tmp 29) (.tmp 39) 25 3 (.int .i64 0) 8 rfl Try.underlying25 info3 rfl (by decide) (by omega) u6 x6_1 (Int.tmod (wrap64 ((wrap64 ((Int.tmod (wrap64 ((rd l0 0) + a1)) 2) * (rd t314 x8_1))))) 2) [.int .i64 (Int.tmod (wrap64 ((wrap64 ((Int.tmod (wrap64 ((rd l0 0) + a1)) 2) * (rd t314 x8_1))))) 2)] (fun k_ => some k_ ≠ (.slice (some ad322) t314.length co21 : Value).ownBlock) (fun _ => False) rfl rfl ?aP (fun _ hk => hk.elim) ?aF ?aO ?aB ?aS ?aL ?_; (case aP => exact rfl); (case aB => exact (by repeat (with_reducible first | exact HB.out | apply zqad | apply zqac | apply zqae))); (case aF => exact (fun k_ hk => Kd.fresh' (Kd.R_lt (by (with_reducible repeat (first | apply Kd.R_alloc | apply Kd.R_drewN | apply Kd.R_drew)); exact HO_7.out)) k_ hk)); (case aO => exact (by (with_reducible repeat (first | apply Kd.R_alloc | apply Kd.R_drewN | apply Kd.R_drew)); exact HO_6.out)); (case aS => exact (zqaj (by repeat (with_reducible first | exact HB.out | apply zqad | apply zqac | apply zqae)))); (case aL => have := LMc20.out; omega); intro v324 w22 ho hb hg hat; rw [← Ny323.out] at ho; have n0_ := Aside0.mk (Kd.R_after (ok := (fun _ => True)) (by (with_reducible repeat (first | apply Kd.R_alloc | apply Kd.R_drewN | apply Kd.R_drew)); exact Kd.R_mono HO_7.out (fun _ hk => ⟨trivial, hk⟩)) hg hat); have n1_ := Aside0.mk (hb); have n2_ := Aside0.mk (ho); clear HO_7; clear HB; clear HO_6; have HO_7 := n0_; have HB := n1_; have HO325 := n2_; clear n0_ n1_ n2_; clear ho hb hg hat))
         go_roundg k1
         case measure => have := HK1.out; omega
         case rel => exact ⟨(y323), (wrap64 (x8_1 + 1)), (by first | rfl | (simp; done) | (simp [*]; done)), H', ⟨by have := HK1.out; omega⟩, ⟨by (with_reducible repeat (first | apply Kd.R_alloc | apply Kd.R_drewN | apply Kd.R_drew)); exact HO325.out⟩, ⟨by (with_reducible repeat (first | apply Kd.R_alloc | apply Kd.R_drewN | apply Kd.R_drew)); exact Kd.R_mono HO_7.out (fun _ hk => hk.2)⟩, ⟨by repeat (with_reducible first | exact HB.out | apply zqad | apply zqac | apply zqae)⟩⟩
        ·
         rw [if_neg c20] at H
         exact absurd H (by simp)
       ·
        rw [if_neg c19] at H
        exact absurd H (by simp)
      ·
       rw [if_neg c18] at H
       exact absurd H (by simp)
    ·
     rw [if_neg c8] at H
     have c8b0 : decide (x8_1 < 15) = false := decide_eq_false c8
     clear c8
     obtain rfl := Option.some.inj H
     go_wp2
     go_ret
     exact ⟨_, by first | rfl | (simp [errW_none, errW_some] <;> rfl) | (simp [*, errW_none, errW_some] <;> rfl), by (with_reducible repeat (first | apply Kd.R_alloc | apply Kd.R_drewN | apply Kd.R_drew)); exact Kd.R_mono HO_6.out (fun _ hk => trivial), by repeat (with_reducible first | exact HB.out | apply zqad | apply zqac | apply zqae)⟩
 ·
  rw [if_neg c3] at H
  exact absurd H (by simp)

/-! ### magnetoref02_Sum: function 60 -/
def magnetoref02_Sum.l0 : Nat → List Int → List Int → Int → Option (List Int)
 | 0, _, _, _ => none
 | k + 1, x0, x3, x4 => if x4 < (x0.length : Int) then (if 0 ≤ x4 then ((magnetoref02_Behind.f k x3 (rd x0 x4)).bind fun t330 => (magnetoref02_Sum.l0 k x0 t330 (wrap64 (x4 + 1)))) else (none)) else (some x3)
def magnetoref02_Sum.f (k : Nat) (l0 : List Int) : Option (List Int) := magnetoref02_Sum.l0 k l0 (List.replicate 15 0) 0
theorem magnetoref02_Sum.mono_l : ∀ k, (∀ y0 y1 y2, LeO (magnetoref02_Sum.l0 k y0 y1 y2) (magnetoref02_Sum.l0 (k + 1) y0 y1 y2))
 | 0 => fun _ _ _ r h => by simp [magnetoref02_Sum.l0] at h
 | k + 1 => by
  have ih0 := magnetoref02_Sum.mono_l k
  ·
   intro y0 y1 y2
   unfold magnetoref02_Sum.l0
   repeat' first
   | (with_reducible exact ih0 _ _ _)
   | (with_reducible exact magnetoref02_Behind.mono _ _ _)
   | (with_reducible exact LeO.refl _)
   | (with_reducible exact LeO.none _)
   | (with_reducible refine LeO.ite ?_ ?_)
   | (with_reducible refine LeO.bind ?_ (fun _ => ?_))
   | exact ih0 _ _ _
   | exact magnetoref02_Behind.mono _ _ _
   | exact LeO.none _
   | refine LeO.ite ?_ ?_
   | refine LeO.bind ?_ (fun _ => ?_)
theorem magnetoref02_Sum.mono : ∀ a0 k, LeO (magnetoref02_Sum.f k a0) (magnetoref02_Sum.f (k + 1) a0) := by
 intro a0 k
 have ih0 := magnetoref02_Sum.mono_l k
 unfold magnetoref02_Sum.f
 repeat' first
   | (with_reducible exact ih0 _ _ _)
   | (with_reducible exact magnetoref02_Behind.mono _ _ _)
   | (with_reducible exact LeO.refl _)
   | (with_reducible exact LeO.none _)
   | (with_reducible refine LeO.ite ?_ ?_)
   | (with_reducible refine LeO.bind ?_ (fun _ => ?_))
   | exact ih0 _ _ _
   | exact magnetoref02_Behind.mono _ _ _
   | exact LeO.none _
   | refine LeO.ite ?_ ?_
   | refine LeO.bind ?_ (fun _ => ?_)
set_option maxHeartbeats 8000000 in
set_option maxRecDepth 100000 in
theorem magnetoref02_Sum.calls (k : Nat) (A0 : Option Addr) (c0 : Nat) (l0 : List Int) (r : List Int) (w : World) (hr0 : Kd.C (Kd.int .i64) w A0 l0.length l0) (hc0 : l0.length ≤ c0) (h : magnetoref02_Sum.f k l0 = some r) :
  Calls Try.prog 60 #[.slice A0 l0.length c0] w fun e w' => ∃ v0_ : Value, e = .returned (v0_) ∧ Kd.R (Kd.int .i64) 3 w' w.heap.size (fun _ => True) v0_ r ∧ Below w.heap.size w w' := by
 have HR0 := Aside0.mk hr0
 have HC0 := Aside0.mk hc0
 clear hr0 hc0
 have HB := Aside0.mk (Below.refl w.heap.size w)
 have H : (magnetoref02_Sum.l0 k l0 (List.replicate 15 0) 0) = some r := h
 clear h
 obtain ⟨y326, hy326⟩ : ∃ y_ : List Int, y_ = (List.replicate 15 0) := ⟨_, rfl⟩
 replace H : (magnetoref02_Sum.l0 k l0 y326 0) = some r := by first | (rw [hy326]; with_reducible exact H) | (have H2_ := (Option.bind_some _ _).symm.trans H; rw [hy326]; with_reducible exact H2_) | (have H2_ := (Option.bind_some _ _).symm.trans H; with_reducible exact H2_) | with_reducible exact H | (rw [hy326]; exact H) | exact H
 have Ny326 := Aside0.mk hy326
 clear hy326
 have H' := Aside0.mk H
 clear H
 go_enter Try.func60, Try.ntmps60
 go_wp2_with (first | ((with_reducible refine zqar (N := 5) rfl ?_); refine Kd.R_make (Kd.int .i64) _ 3 rfl (N := 5) rfl 25 _ _ rfl 15 rfl rfl Try.underlying25 (.int .i64 0) 8 info3 rfl (by decide) (by omega) 0 (ok := fun _ => True) (okp := fun _ => True) rfl (fun _ hk => hk) trivial (by omega) (by omega) (Below.refl _ _) (Nat.le_refl _) ?_; intro v327 w2 ho3 hb hg_ hnew_; clear hg_ hnew_; (first | rw [← Ny326.out] at ho3 | (simp only [Int.reduceToNat] at ho3; rw [← Ny326.out] at ho3)); have n0_ := Aside0.mk (Kd.R_lower ho3 (zqaj (by repeat (with_reducible first | exact HB.out | apply zqad | apply zqac | apply zqae)))); have n1_ := Aside0.mk (zqak (by repeat (with_reducible first | exact HB.out | apply zqad | apply zqac | apply zqae)) hb); clear HB; have HO328 := n0_; have HB := n1_; clear n0_ n1_; clear hb ho3))
 go_loopg [3, 4] k (fun kq v3 v4 w' => ∃ (x3_1 : List Int) (x4_1 : Int), v4 = .int .i64 x4_1 ∧ Aside0 (magnetoref02_Sum.l0 kq l0 x3_1 x4_1 = some r) ∧ Aside0 (kq ≤ k) ∧ Aside0 (Kd.R (Kd.int .i64) 3 w' w.heap.size (fun _ => True) v3 x3_1) ∧ Aside0 (Below w.heap.size w w'))
 case atStart => exact ⟨(y326), (0), (by first | rfl | (simp; done) | (simp [*]; done)), H', ⟨Nat.le_refl _⟩, ⟨by (with_reducible repeat (first | apply Kd.R_alloc | apply Kd.R_drewN | apply Kd.R_drew)); exact HO328.out⟩, ⟨by repeat (with_reducible first | exact HB.out | apply zqad | apply zqac | apply zqae)⟩⟩
 case round =>
  clear H'
  try clear p2
  obtain ⟨x3_1, x4_1, rfl, HA, HK1, HO_3, HB⟩ := hrel
  cases gk with
  | zero => exact absurd HA.out (by simp [magnetoref02_Sum.l0])
  | succ k1 =>
   have H := HA.out
   clear HA
   simp only [magnetoref02_Sum.l0] at H
   by_cases c4 : x4_1 < (l0.length : Int)
   ·
    rw [if_pos c4] at H
    have c4b0 : decide (x4_1 < (l0.length : Int)) = true := decide_eq_true c4
    clear c4
    by_cases c5 : 0 ≤ x4_1
    ·
     rw [if_pos c5] at H
     have c5b0 : decide (0 ≤ x4_1) = true := decide_eq_true c5
     clear c5
     replace H := Option.bind_eq_some_iff.mp H
     obtain ⟨t330, A60, H⟩ := H
     replace H : (magnetoref02_Sum.l0 k1 l0 t330 (wrap64 (x4_1 + 1))) = some r := H
     have A6 := Aside0.mk A60
     clear A60
     have H' := Aside0.mk H
     clear H
     have p329 : 0 ≤ (x4_1 : Int) := of_decide_eq_true (by first | (with_reducible assumption) | assumption)
     have q329 : x4_1 < (l0.length : Int) := of_decide_eq_true (by first | (with_reducible assumption) | assumption)
     obtain ⟨ad329, e329, hx329_0⟩ := Kd.at_int HR0.out x4_1 p329 q329
     cases e329
     replace hx329_0 := (HB.out.cell (World.block_lt_of_cell? w _ hx329_0)).trans hx329_0
     replace p329 := eq_true p329
     replace q329 := eq_true q329
     obtain ⟨Ao7, co7, eo7⟩ := Kd.R_slice HO_3.out
     subst eo7
     go_wp2_with (first | ((with_reducible refine zqal (f := 80) rfl ?_); refine goesL_ (some 17) rfl rfl Try.func80 (by kernel_rfl) rfl #[.slice Ao7 x3_1.length co7, .int .i64 (rd l0 x4_1)] rfl (by (try simp only [List.map_toArray, List.map_cons, List.map_nil]); first | done | rfl | (simp only [List.length_drop, List.length_take]; rfl)) ?_; (with_reducible refine (magnetoref02_Behind.calls k1 _ _ x3_1 (rd l0 x4_1) t330 _ ?side1 ?side2 A6.out).mono ?_); (case side1 => repeat (first | exact (Kd.R_reads' HO_3.out).2.2 | (with_reducible refine Kd.C_alloc ?_ _) | (with_reducible refine Kd.C_drewN ?_ _) | (with_reducible refine Kd.C_drew ?_))); (case side2 => exact (Kd.R_reads' HO_3.out).2.1); rintro e w8 ⟨v331, rfl, ho0, hb⟩; refine ⟨_, rfl, ?_⟩; have n0_ := Aside0.mk (Kd.R_elder' (by (with_reducible repeat (first | apply Kd.R_alloc | apply Kd.R_drewN | apply Kd.R_drew)); exact HO_3.out) (Kd.R_base ho0) hb); have n1_ := Aside0.mk (Kd.R_lower (Kd.R_new' ho0 (Kd.R_lt (by (with_reducible repeat (first | apply Kd.R_alloc | apply Kd.R_drewN | apply Kd.R_drew)); exact HO_3.out))) (zqaj (by repeat (with_reducible first | exact HB.out | apply zqad | apply zqac | apply zqae)))); have n2_ := Aside0.mk (zqak (by repeat (with_reducible first | exact HB.out | apply zqad | apply zqac | apply zqae)) hb); clear HO_3; clear HB; have HO_3 := n0_; have HO332 := n1_; have HB := n2_; clear n0_ n1_ n2_; (try clear hb); (try clear hb2); (try clear hk); (try clear hi); (try clear ho0)))
     go_roundg k1
     case measure => have := HK1.out; omega
     case rel => exact ⟨(t330), (wrap64 (x4_1 + 1)), (by first | rfl | (simp; done) | (simp [*]; done)), H', ⟨by have := HK1.out; omega⟩, ⟨by (with_reducible repeat (first | apply Kd.R_alloc | apply Kd.R_drewN | apply Kd.R_drew)); exact Kd.R_mono HO332.out (fun _ hk => trivial)⟩, ⟨by repeat (with_reducible first | exact HB.out | apply zqad | apply zqac | apply zqae)⟩⟩
    ·
     rw [if_neg c5] at H
     exact absurd H (by simp)
   ·
    rw [if_neg c4] at H
    have c4b0 : decide (x4_1 < (l0.length : Int)) = false := decide_eq_false c4
    clear c4
    obtain rfl := Option.some.inj H
    go_wp2
    go_ret
    exact ⟨_, by first | rfl | (simp [errW_none, errW_some] <;> rfl) | (simp [*, errW_none, errW_some] <;> rfl), by (with_reducible repeat (first | apply Kd.R_alloc | apply Kd.R_drewN | apply Kd.R_drew)); exact HO_3.out, by repeat (with_reducible first | exact HB.out | apply zqad | apply zqac | apply zqae)⟩

/-! ### magnetoref04_Sum: function 32 -/
def magnetoref04_Sum.f (k : Nat) (l0 : List Int) : Option (List Int) := (magnetoref02_Sum.f k l0).bind fun t333 => (some t333)
theorem magnetoref04_Sum.mono : ∀ a0 k, LeO (magnetoref04_Sum.f k a0) (magnetoref04_Sum.f (k + 1) a0) := by
 intro a0 k
 unfold magnetoref04_Sum.f
 repeat' first
   | (with_reducible exact magnetoref02_Sum.mono _ _)
   | (with_reducible exact LeO.refl _)
   | (with_reducible exact LeO.none _)
   | (with_reducible refine LeO.ite ?_ ?_)
   | (with_reducible refine LeO.bind ?_ (fun _ => ?_))
   | exact magnetoref02_Sum.mono _ _
   | exact LeO.none _
   | refine LeO.ite ?_ ?_
   | refine LeO.bind ?_ (fun _ => ?_)
set_option maxHeartbeats 8000000 in
set_option maxRecDepth 100000 in
theorem magnetoref04_Sum.calls (k : Nat) (A0 : Option Addr) (c0 : Nat) (l0 : List Int) (r : List Int) (w : World) (hr0 : Kd.C (Kd.int .i64) w A0 l0.length l0) (hc0 : l0.length ≤ c0) (h : magnetoref04_Sum.f k l0 = some r) :
  Calls Try.prog 32 #[.slice A0 l0.length c0] w fun e w' => ∃ v0_ : Value, e = .returned (v0_) ∧ Kd.R (Kd.int .i64) 3 w' w.heap.size (fun _ => True) v0_ r ∧ Below w.heap.size w w' := by
 have HR0 := Aside0.mk hr0
 have HC0 := Aside0.mk hc0
 clear hr0 hc0
 have HB := Aside0.mk (Below.refl w.heap.size w)
 have H : ((magnetoref02_Sum.f k l0).bind fun t333 => (some t333)) = some r := h
 clear h
 replace H := Option.bind_eq_some_iff.mp H
 obtain ⟨t333, A20, H⟩ := H
 replace H : (some t333) = some r := H
 have A2 := Aside0.mk A20
 clear A20
 obtain rfl := Option.some.inj H
 go_enter Try.func32, Try.ntmps32
 go_wp2_with (first | ((with_reducible refine zqal (f := 60) rfl ?_); refine goesL_ (some 4) rfl rfl Try.func60 (by kernel_rfl) rfl #[.slice A0 l0.length c0] rfl (by (try simp only [List.map_toArray, List.map_cons, List.map_nil]); first | done | rfl | (simp only [List.length_drop, List.length_take]; rfl)) ?_; (with_reducible refine (magnetoref02_Sum.calls k _ _ l0 t333 _ ?side1 ?side2 A2.out).mono ?_); (case side1 => repeat (first | exact HR0.out | (with_reducible refine Kd.C_alloc ?_ _) | (with_reducible refine Kd.C_drewN ?_ _) | (with_reducible refine Kd.C_drew ?_))); (case side2 => exact HC0.out); rintro e w3 ⟨v334, rfl, ho0, hb⟩; refine ⟨_, rfl, ?_⟩; have n0_ := Aside0.mk (Kd.R_lower ho0 (zqaj (by repeat (with_reducible first | exact HB.out | apply zqad | apply zqac | apply zqae)))); have n1_ := Aside0.mk (zqak (by repeat (with_reducible first | exact HB.out | apply zqad | apply zqac | apply zqae)) hb); clear HB; have HO335 := n0_; have HB := n1_; clear n0_ n1_; (try clear hb); (try clear hb2); (try clear hk); (try clear hi); (try clear ho0)))
 go_ret
 exact ⟨_, by first | rfl | (simp [errW_none, errW_some] <;> rfl) | (simp [*, errW_none, errW_some] <;> rfl), by (with_reducible repeat (first | apply Kd.R_alloc | apply Kd.R_drewN | apply Kd.R_drew)); exact HO335.out, by repeat (with_reducible first | exact HB.out | apply zqad | apply zqac | apply zqae)⟩

end Go.Proofs.Ytakemodmdhglnaa.PA
