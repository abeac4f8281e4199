/- Functions of the program, in plain Lean, and their walks (printed; half the indent). Conditions: none. -/
-- PRINTED by print.py (a twelfth state) out of the translation. Not trusted: Lean checks it.
import Derived.Test.YtakemodmdhglnaaPAx0
import Derived.Test.YtakemodmdhglnaaPAx5
import Derived.Test.YtakemodmdhglnaaPAx7
import Derived.Test.YtakemodmdhglnaaPAx10
import Derived.Test.YtakemodmdhglnaaPAx11
import Derived.Test.YtakemodmdhglnaaPAx12
namespace Go.Proofs.Ytakemodmdhglnaa.PA
open Go.RowKit Go.Proofs.YtakemodmdhglnaaW.PrintWords Go.Proofs.YtakemodmdhglnaaW.PrintLast Go.Proofs.YtakemodmdhglnaaW.PrintMore
attribute [local go_sem] zqbb zqaz zqbd zqbe zqax zqay zqba zqbc   -- for this text's walks alone
set_option linter.unusedVariables false
set_option linter.unusedSimpArgs false

/-! ### field_All: function 17 -/
def field_All.f (k : Nat) (a0_0 : Int) (a0_1 : Bool) (a0_2 : Bool) (a0_3 : Int) (a0_4 : Int) (a0_5 : Int) (a0_6 : Int) (a0_7 : Int) (a0_8 : Int) (a0_9 : Int) (a0_10 : Int) (a0_11 : Int) : Option (List Int × Int) := (field_Bits.f a0_0 a0_1 a0_2 a0_3 a0_4 a0_5 a0_6 a0_7 a0_8 a0_9 a0_10 a0_11).bind fun bt149 => (if bt149.2 = 0 then ((crc15_Sum.f bt149.1).bind fun bt153 => (if bt153.2 = 0 then ((crc15_Bits.f k bt153.1).bind fun bt155 => (if bt155.2 = 0 then ((slices_Repeat_int_int.f (([1] : List Int)) 10).bind fun t162 => ((slices_Concat_int_int.f (([bt149.1, bt155.1, t162] : List (List Int)))).bind fun t168 => (some (t168, 0)))) else (some (([] : List Int), bt155.2)))) else (some (([] : List Int), bt153.2)))) else (some (([] : List Int), bt149.2)))
theorem field_All.mono : ∀ a0 a1 a2 a3 a4 a5 a6 a7 a8 a9 a10 a11 k, LeO (field_All.f k a0 a1 a2 a3 a4 a5 a6 a7 a8 a9 a10 a11) (field_All.f (k + 1) a0 a1 a2 a3 a4 a5 a6 a7 a8 a9 a10 a11) := by
 intro a0 a1 a2 a3 a4 a5 a6 a7 a8 a9 a10 a11 k
 unfold field_All.f
 repeat' first
   | (with_reducible exact crc15_Bits.mono _ _)
   | (with_reducible exact LeO.refl _)
   | (with_reducible exact LeO.none _)
   | (with_reducible refine LeO.ite ?_ ?_)
   | (with_reducible refine LeO.bind ?_ (fun _ => ?_))
   | exact crc15_Bits.mono _ _
   | exact LeO.none _
   | refine LeO.ite ?_ ?_
   | refine LeO.bind ?_ (fun _ => ?_)
set_option maxHeartbeats 8000000 in
set_option maxRecDepth 100000 in
theorem field_All.calls (k : Nat) (a0_0 : Int) (a0_1 : Bool) (a0_2 : Bool) (a0_3 : Int) (a0_4 : Int) (a0_5 : Int) (a0_6 : Int) (a0_7 : Int) (a0_8 : Int) (a0_9 : Int) (a0_10 : Int) (a0_11 : Int) (r1 : List Int) (r2 : Int) (w : World) (h : field_All.f k a0_0 a0_1 a0_2 a0_3 a0_4 a0_5 a0_6 a0_7 a0_8 a0_9 a0_10 a0_11 = some (r1, r2)) :
  Calls Try.prog 17 #[.agg #[.int .i64 a0_0, .bool a0_1, .bool a0_2, .int .i64 a0_3, .int .u8 a0_4, .int .u8 a0_5, .int .u8 a0_6, .int .u8 a0_7, .int .u8 a0_8, .int .u8 a0_9, .int .u8 a0_10, .int .u8 a0_11]] w fun e w' => ∃ v0_ : Value, e = .returned (.tuple #[v0_, .int .i64 r2]) ∧ Kd.R (Kd.int .i64) 3 w' w.heap.size (fun _ => True) v0_ r1 ∧ Below w.heap.size w w' := by
 have hu24 := Try.underlying24
 have HB := Aside0.mk (Below.refl w.heap.size w)
 have H : ((field_Bits.f a0_0 a0_1 a0_2 a0_3 a0_4 a0_5 a0_6 a0_7 a0_8 a0_9 a0_10 a0_11).bind fun bt149 => (if bt149.2 = 0 then ((crc15_Sum.f bt149.1).bind fun bt153 => (if bt153.2 = 0 then ((crc15_Bits.f k bt153.1).bind fun bt155 => (if bt155.2 = 0 then ((slices_Repeat_int_int.f (([1] : List Int)) 10).bind fun t162 => ((slices_Concat_int_int.f (([bt149.1, bt155.1, t162] : List (List Int)))).bind fun t168 => (some (t168, 0)))) else (some (([] : List Int), bt155.2)))) else (some (([] : List Int), bt153.2)))) else (some (([] : List Int), bt149.2)))) = some (r1, r2) := h
 clear h
 replace H := Option.bind_eq_some_iff.mp H
 obtain ⟨⟨t149, t152⟩, A20, H⟩ := H
 replace H : (if t152 = 0 then ((crc15_Sum.f t149).bind fun bt153 => (if bt153.2 = 0 then ((crc15_Bits.f k bt153.1).bind fun bt155 => (if bt155.2 = 0 then ((slices_Repeat_int_int.f (([1] : List Int)) 10).bind fun t162 => ((slices_Concat_int_int.f (([t149, bt155.1, t162] : List (List Int)))).bind fun t168 => (some (t168, 0)))) else (some (([] : List Int), bt155.2)))) else (some (([] : List Int), bt153.2)))) else (some (([] : List Int), t152))) = some (r1, r2) := H
 have A2 := Aside0.mk A20
 clear A20
 by_cases c3 : t152 = 0
 ·
  rw [if_pos c3] at H
  have c3b0 : (t152 == 0) = true := beq_iff_eq.mpr c3
  have c3b1 : (t152 != 0) = false := bne_eq_false_iff_eq.mpr c3
  clear c3
  replace H := Option.bind_eq_some_iff.mp H
  obtain ⟨⟨t153, t154⟩, A40, H⟩ := H
  replace H : (if t154 = 0 then ((crc15_Bits.f k t153).bind fun bt155 => (if bt155.2 = 0 then ((slices_Repeat_int_int.f (([1] : List Int)) 10).bind fun t162 => ((slices_Concat_int_int.f (([t149, bt155.1, t162] : List (List Int)))).bind fun t168 => (some (t168, 0)))) else (some (([] : List Int), bt155.2)))) else (some (([] : List Int), t154))) = some (r1, r2) := H
  have A4 := Aside0.mk A40
  clear A40
  by_cases c5 : t154 = 0
  ·
   rw [if_pos c5] at H
   have c5b0 : (t154 == 0) = true := beq_iff_eq.mpr c5
   have c5b1 : (t154 != 0) = false := bne_eq_false_iff_eq.mpr c5
   clear c5
   replace H := Option.bind_eq_some_iff.mp H
   obtain ⟨⟨t155, t156⟩, A60, H⟩ := H
   replace H : (if t156 = 0 then ((slices_Repeat_int_int.f (([1] : List Int)) 10).bind fun t162 => ((slices_Concat_int_int.f (([t149, t155, t162] : List (List Int)))).bind fun t168 => (some (t168, 0)))) else (some (([] : List Int), t156))) = some (r1, r2) := H
   have A6 := Aside0.mk A60
   clear A60
   by_cases c7 : t156 = 0
   ·
    rw [if_pos c7] at H
    have c7b0 : (t156 == 0) = true := beq_iff_eq.mpr c7
    have c7b1 : (t156 != 0) = false := bne_eq_false_iff_eq.mpr c7
    clear c7
    obtain ⟨y159, hy159⟩ : ∃ y_ : List Int, y_ = (([1] : List Int)) := ⟨_, rfl⟩
    replace H : ((slices_Repeat_int_int.f y159 10).bind fun t162 => ((slices_Concat_int_int.f (([t149, t155, t162] : List (List Int)))).bind fun t168 => (some (t168, 0)))) = some (r1, r2) := by first | (rw [hy159]; with_reducible exact H) | (have H2_ := (Option.bind_some _ _).symm.trans H; rw [hy159]; with_reducible exact H2_) | (have H2_ := (Option.bind_some _ _).symm.trans H; with_reducible exact H2_) | with_reducible exact H | (rw [hy159]; exact H) | exact H
    have Ny159 := Aside0.mk hy159
    clear hy159
    replace H := Option.bind_eq_some_iff.mp H
    obtain ⟨t162, A80, H⟩ := H
    replace H : ((slices_Concat_int_int.f (([t149, t155, t162] : List (List Int)))).bind fun t168 => (some (t168, 0))) = some (r1, r2) := H
    have A8 := Aside0.mk A80
    clear A80
    obtain ⟨y165, hy165⟩ : ∃ y_ : List (List Int), y_ = (([t149, t155, t162] : List (List Int))) := ⟨_, rfl⟩
    replace H : ((slices_Concat_int_int.f y165).bind fun t168 => (some (t168, 0))) = some (r1, r2) := by first | (rw [hy165]; with_reducible exact H) | (have H2_ := (Option.bind_some _ _).symm.trans H; rw [hy165]; with_reducible exact H2_) | (have H2_ := (Option.bind_some _ _).symm.trans H; with_reducible exact H2_) | with_reducible exact H | (rw [hy165]; exact H) | exact H
    have Ny165 := Aside0.mk hy165
    clear hy165
    replace H := Option.bind_eq_some_iff.mp H
    obtain ⟨t168, A90, H⟩ := H
    replace H : (some (t168, 0)) = some (r1, r2) := H
    have A9 := Aside0.mk A90
    clear A90
    simp only [Option.some.injEq, Prod.mk.injEq] at H
    obtain ⟨rfl, rfl⟩ := H
    go_enter Try.func17, Try.ntmps17
    go_wp2_with (first | ((with_reducible refine zqar (N := 1) rfl ?_); refine zqav ?hg (N := 1) ?hd (cs := #[.int .i64 a0_0, .bool a0_1, .bool a0_2, .int .i64 a0_3, .int .u8 a0_4, .int .u8 a0_5, .int .u8 a0_6, .int .u8 a0_7, .int .u8 a0_8, .int .u8 a0_9, .int .u8 a0_10, .int .u8 a0_11]) (t := 24) ?hr ?_; (case hd => rfl); (case hg => rfl); (case hr => first | (go_simp; done) | (go_simp; rfl)); intro gb148 hg w10 hbox hb; have n0_ := Aside0.mk (zqak (by repeat (with_reducible first | exact HB.out | apply zqad | apply zqac | apply zqae)) hb); have n1_ := Aside0.mk (hbox); have n2_ := Aside0.mk ((by rw [hg]; exact (zqaj (by repeat (with_reducible first | exact HB.out | apply zqad | apply zqac | apply zqae))) : w.heap.size ≤ gb148)); have n3_ := Aside0.mk ((by rw [hg]; exact (zqaj (by repeat (with_reducible first | exact HB.out | apply zqad | apply zqac | apply zqae))) : w.heap.size ≤ gb148)); clear HB; have HB := n0_; have BK148 := n1_; have GW148 := n2_; have GE148 := n3_; clear n0_ n1_ n2_ n3_; clear hb hbox hg; have hcz11_0 : w10.cell? ⟨gb148, 0, none⟩ = some (.int .i64 a0_0) := (zqab BK148.out 0).trans rfl; have hcz11_1 : w10.cell? ⟨gb148, 1, none⟩ = some (.bool a0_1) := (zqab BK148.out 1).trans rfl; have hcz11_2 : w10.cell? ⟨gb148, 2, none⟩ = some (.bool a0_2) := (zqab BK148.out 2).trans rfl; have hcz11_3 : w10.cell? ⟨gb148, 3, none⟩ = some (.int .i64 a0_3) := (zqab BK148.out 3).trans rfl; have hcz11_4 : w10.cell? ⟨gb148, 4, none⟩ = some (.int .u8 a0_4) := (zqab BK148.out 4).trans rfl; have hcz11_5 : w10.cell? ⟨gb148, 5, none⟩ = some (.int .u8 a0_5) := (zqab BK148.out 5).trans rfl; have hcz11_6 : w10.cell? ⟨gb148, 6, none⟩ = some (.int .u8 a0_6) := (zqab BK148.out 6).trans rfl; have hcz11_7 : w10.cell? ⟨gb148, 7, none⟩ = some (.int .u8 a0_7) := (zqab BK148.out 7).trans rfl; have hcz11_8 : w10.cell? ⟨gb148, 8, none⟩ = some (.int .u8 a0_8) := (zqab BK148.out 8).trans rfl; have hcz11_9 : w10.cell? ⟨gb148, 9, none⟩ = some (.int .u8 a0_9) := (zqab BK148.out 9).trans rfl; have hcz11_10 : w10.cell? ⟨gb148, 10, none⟩ = some (.int .u8 a0_10) := (zqab BK148.out 10).trans rfl; have hcz11_11 : w10.cell? ⟨gb148, 11, none⟩ = some (.int .u8 a0_11) := (zqab BK148.out 11).trans rfl; have hfz11_0 := zqaa BK148.out 0; have hfz11_1 := zqaa BK148.out 1; have hfz11_2 := zqaa BK148.out 2; have hfz11_3 := zqaa BK148.out 3; have hfz11_4 := zqaa BK148.out 4; have hfz11_5 := zqaa BK148.out 5; have hfz11_6 := zqaa BK148.out 6; have hfz11_7 := zqaa BK148.out 7; have hfz11_8 := zqaa BK148.out 8; have hfz11_9 := zqaa BK148.out 9; have hfz11_10 := zqaa BK148.out 10; have hfz11_11 := zqaa BK148.out 11) | ((with_reducible refine zqal (f := 16) rfl ?_); refine goesL_ (some 10) rfl rfl Try.func16 (by kernel_rfl) rfl #[.agg #[.int .i64 a0_0, .bool a0_1, .bool a0_2, .int .i64 a0_3, .int .u8 a0_4, .int .u8 a0_5, .int .u8 a0_6, .int .u8 a0_7, .int .u8 a0_8, .int .u8 a0_9, .int .u8 a0_10, .int .u8 a0_11]] rfl (by (try simp only [List.map_toArray, List.map_cons, List.map_nil]); first | done | rfl | (simp only [List.length_drop, List.length_take]; rfl)) ?_; (with_reducible refine (field_Bits.calls a0_0 a0_1 a0_2 a0_3 a0_4 a0_5 a0_6 a0_7 a0_8 a0_9 a0_10 a0_11 t149 t152 _ A2.out).mono ?_); rintro e w12 ⟨v150, rfl, ho0, hb⟩; refine ⟨_, rfl, ?_⟩; have n0_ := Aside0.mk (Kd.R_lower ho0 (zqaj (by repeat (with_reducible first | exact HB.out | apply zqad | apply zqac | apply zqae | refine zqah ?_ GE148.out)))); have n1_ := Aside0.mk (zqam (g := gb148) (o := .cells #[.int .i64 a0_0, .bool a0_1, .bool a0_2, .int .i64 a0_3, .int .u8 a0_4, .int .u8 a0_5, .int .u8 a0_6, .int .u8 a0_7, .int .u8 a0_8, .int .u8 a0_9, .int .u8 a0_10, .int .u8 a0_11] 24 (0, 0)) (by (with_reducible repeat (first | refine zqag ?_ _ | refine zqai ?_ | refine zqaf ?_ _)); exact BK148.out) hb); have n2_ := Aside0.mk (zqak (by repeat (with_reducible first | exact HB.out | apply zqad | apply zqac | apply zqae | refine zqah ?_ GE148.out)) hb); clear BK148; clear HB; have HO151 := n0_; have BK148 := n1_; have HB := n2_; clear n0_ n1_ n2_; (try clear hb); (try clear hb2); (try clear hk); (try clear hi); (try clear ho0); obtain ⟨Ao13, co13, eo13⟩ := Kd.R_slice HO151.out; subst eo13) | ((with_reducible refine zqal (f := 47) rfl ?_); refine goesL_ (some 18) rfl rfl Try.func47 (by kernel_rfl) rfl #[.slice Ao13 t149.length co13] rfl (by (try simp only [List.map_toArray, List.map_cons, List.map_nil]); first | done | rfl | (simp only [List.length_drop, List.length_take]; rfl)) ?_; (with_reducible refine (crc15_Sum.calls _ _ t149 t153 t154 _ ?side1 ?side2 A4.out).mono ?_); (case side1 => repeat (first | exact (Kd.R_reads' HO151.out).2.2 | (with_reducible refine Kd.C_alloc ?_ _) | (with_reducible refine Kd.C_drewN ?_ _) | (with_reducible refine Kd.C_drew ?_))); (case side2 => exact (Kd.R_reads' HO151.out).2.1); rintro e w14 ⟨rfl, hb⟩; refine ⟨_, rfl, ?_⟩; have n0_ := Aside0.mk (Kd.R_below (by (with_reducible repeat (first | apply Kd.R_alloc | apply Kd.R_drewN | apply Kd.R_drew)); exact HO151.out) hb); have n1_ := Aside0.mk (zqam (g := gb148) (o := .cells #[.int .i64 a0_0, .bool a0_1, .bool a0_2, .int .i64 a0_3, .int .u8 a0_4, .int .u8 a0_5, .int .u8 a0_6, .int .u8 a0_7, .int .u8 a0_8, .int .u8 a0_9, .int .u8 a0_10, .int .u8 a0_11] 24 (0, 0)) (by (with_reducible repeat (first | refine zqag ?_ _ | refine zqai ?_ | refine zqaf ?_ _)); exact BK148.out) hb); have n2_ := Aside0.mk (zqak (by repeat (with_reducible first | exact HB.out | apply zqad | apply zqac | apply zqae | refine zqah ?_ GE148.out)) hb); clear HO151; clear BK148; clear HB; have HO151 := n0_; have BK148 := n1_; have HB := n2_; clear n0_ n1_ n2_; (try clear hb); (try clear hb2); (try clear hk); (try clear hi)) | ((with_reducible refine zqal (f := 48) rfl ?_); refine goesL_ (some 26) rfl rfl Try.func48 (by kernel_rfl) rfl #[.int .i64 t153] rfl (by (try simp only [List.map_toArray, List.map_cons, List.map_nil]); first | done | rfl | (simp only [List.length_drop, List.length_take]; rfl)) ?_; (with_reducible refine (crc15_Bits.calls k t153 t155 t156 _ A6.out).mono ?_); rintro e w15 ⟨v157, rfl, ho0, hb⟩; refine ⟨_, rfl, ?_⟩; have n0_ := Aside0.mk (Kd.R_elder' (by (with_reducible repeat (first | apply Kd.R_alloc | apply Kd.R_drewN | apply Kd.R_drew)); exact HO151.out) (Kd.R_base ho0) hb); have n1_ := Aside0.mk (Kd.R_lower (Kd.R_new' ho0 (Kd.R_lt (by (with_reducible repeat (first | apply Kd.R_alloc | apply Kd.R_drewN | apply Kd.R_drew)); exact HO151.out))) (zqaj (by repeat (with_reducible first | exact HB.out | apply zqad | apply zqac | apply zqae | refine zqah ?_ GE148.out)))); have n2_ := Aside0.mk (zqam (g := gb148) (o := .cells #[.int .i64 a0_0, .bool a0_1, .bool a0_2, .int .i64 a0_3, .int .u8 a0_4, .int .u8 a0_5, .int .u8 a0_6, .int .u8 a0_7, .int .u8 a0_8, .int .u8 a0_9, .int .u8 a0_10, .int .u8 a0_11] 24 (0, 0)) (by (with_reducible repeat (first | refine zqag ?_ _ | refine zqai ?_ | refine zqaf ?_ _)); exact BK148.out) hb); have n3_ := Aside0.mk (zqak (by repeat (with_reducible first | exact HB.out | apply zqad | apply zqac | apply zqae | refine zqah ?_ GE148.out)) hb); clear HO151; clear BK148; clear HB; have HO151 := n0_; have HO158 := n1_; have BK148 := n2_; have HB := n3_; clear n0_ n1_ n2_ n3_; (try clear hb); (try clear hb2); (try clear hk); (try clear hi); (try clear ho0)) | ((with_reducible refine zqar (N := 34) rfl ?_); refine Kd.R_lit (Kd.int .i64) _ 3 ?hg (N := 34) ?hd (xs := ([1] : List Int)) (inner := [.int .i64 1]) (ok := fun _ => True) (okp := fun _ => True) ?hr ?hp (fun _ hk => hk) trivial (Below.refl _ _) (Nat.le_refl _) (by simp) ?_; (case hd => rfl); (case hg => rfl); (case hr => first | (go_simp; done) | (go_simp; rfl)); (case hp => exact (Reps.one (show Kd.M (Kd.int .i64) _ _ _ 1 [.int .i64 1] from rfl) (Reps.none _ _))); intro v160 w16 ho17 hb hg_ hnew_; clear hg_ hnew_; (first | rw [← Ny159.out] at ho17 | (simp only [Int.reduceToNat] at ho17; rw [← Ny159.out] at ho17)); have n0_ := Aside0.mk (Kd.R_elder' (by (with_reducible repeat (first | apply Kd.R_alloc | apply Kd.R_drewN | apply Kd.R_drew)); exact HO151.out) (Kd.R_base ho17) hb); have n1_ := Aside0.mk (Kd.R_elder' (by (with_reducible repeat (first | apply Kd.R_alloc | apply Kd.R_drewN | apply Kd.R_drew)); exact HO158.out) (Kd.R_base ho17) hb); have n2_ := Aside0.mk (Kd.R_lower (Kd.R_new' (Kd.R_new' ho17 (Kd.R_lt (by (with_reducible repeat (first | apply Kd.R_alloc | apply Kd.R_drewN | apply Kd.R_drew)); exact HO151.out))) (Kd.R_lt (by (with_reducible repeat (first | apply Kd.R_alloc | apply Kd.R_drewN | apply Kd.R_drew)); exact HO158.out))) (zqaj (by repeat (with_reducible first | exact HB.out | apply zqad | apply zqac | apply zqae | refine zqah ?_ GE148.out)))); have n3_ := Aside0.mk (zqam (g := gb148) (o := .cells #[.int .i64 a0_0, .bool a0_1, .bool a0_2, .int .i64 a0_3, .int .u8 a0_4, .int .u8 a0_5, .int .u8 a0_6, .int .u8 a0_7, .int .u8 a0_8, .int .u8 a0_9, .int .u8 a0_10, .int .u8 a0_11] 24 (0, 0)) (by (with_reducible repeat (first | refine zqag ?_ _ | refine zqai ?_ | refine zqaf ?_ _)); exact BK148.out) hb); have n4_ := Aside0.mk (zqak (by repeat (with_reducible first | exact HB.out | apply zqad | apply zqac | apply zqae | refine zqah ?_ GE148.out)) hb); clear HO151; clear HO158; clear BK148; clear HB; have HO151 := n0_; have HO158 := n1_; have HO161 := n2_; have BK148 := n3_; have HB := n4_; clear n0_ n1_ n2_ n3_ n4_; clear hb ho17; obtain ⟨Ao18, co18, eo18⟩ := Kd.R_slice HO161.out; subst eo18) | ((with_reducible refine zqal (f := 50) rfl ?_); refine goesL_ (some 35) rfl rfl Try.func50 (by kernel_rfl) rfl #[.slice Ao18 y159.length co18, .int .i64 10] rfl (by (try simp only [List.map_toArray, List.map_cons, List.map_nil]); first | done | rfl | (simp only [List.length_drop, List.length_take]; rfl)) ?_; (with_reducible refine (slices_Repeat_int_int.calls _ _ y159 10 t162 _ ?side1 ?side2 A8.out).mono ?_); (case side1 => repeat (first | exact (Kd.R_reads' HO161.out).2.2 | (with_reducible refine Kd.C_alloc ?_ _) | (with_reducible refine Kd.C_drewN ?_ _) | (with_reducible refine Kd.C_drew ?_))); (case side2 => exact (Kd.R_reads' HO161.out).2.1); rintro e w19 ⟨v163, rfl, ho0, hb⟩; refine ⟨_, rfl, ?_⟩; have n0_ := Aside0.mk (Kd.R_elder' (by (with_reducible repeat (first | apply Kd.R_alloc | apply Kd.R_drewN | apply Kd.R_drew)); exact HO151.out) (Kd.R_base ho0) hb); have n1_ := Aside0.mk (Kd.R_elder' (by (with_reducible repeat (first | apply Kd.R_alloc | apply Kd.R_drewN | apply Kd.R_drew)); exact HO158.out) (Kd.R_base ho0) hb); have n2_ := Aside0.mk (Kd.R_elder' (by (with_reducible repeat (first | apply Kd.R_alloc | apply Kd.R_drewN | apply Kd.R_drew)); exact HO161.out) (Kd.R_base ho0) hb); have n3_ := Aside0.mk (Kd.R_lower (Kd.R_new' (Kd.R_new' (Kd.R_new' ho0 (Kd.R_lt (by (with_reducible repeat (first | apply Kd.R_alloc | apply Kd.R_drewN | apply Kd.R_drew)); exact HO151.out))) (Kd.R_lt (by (with_reducible repeat (first | apply Kd.R_alloc | apply Kd.R_drewN | apply Kd.R_drew)); exact HO158.out))) (Kd.R_lt (by (with_reducible repeat (first | apply Kd.R_alloc | apply Kd.R_drewN | apply Kd.R_drew)); exact HO161.out))) (zqaj (by repeat (with_reducible first | exact HB.out | apply zqad | apply zqac | apply zqae | refine zqah ?_ GE148.out)))); have n4_ := Aside0.mk (zqam (g := gb148) (o := .cells #[.int .i64 a0_0, .bool a0_1, .bool a0_2, .int .i64 a0_3, .int .u8 a0_4, .int .u8 a0_5, .int .u8 a0_6, .int .u8 a0_7, .int .u8 a0_8, .int .u8 a0_9, .int .u8 a0_10, .int .u8 a0_11] 24 (0, 0)) (by (with_reducible repeat (first | refine zqag ?_ _ | refine zqai ?_ | refine zqaf ?_ _)); exact BK148.out) hb); have n5_ := Aside0.mk (zqak (by repeat (with_reducible first | exact HB.out | apply zqad | apply zqac | apply zqae | refine zqah ?_ GE148.out)) hb); clear HO151; clear HO158; clear HO161; clear BK148; clear HB; have HO151 := n0_; have HO158 := n1_; have HO161 := n2_; have HO164 := n3_; have BK148 := n4_; have HB := n5_; clear n0_ n1_ n2_ n3_ n4_ n5_; (try clear hb); (try clear hb2); (try clear hk); (try clear hi); (try clear ho0); obtain ⟨Ao20, co20, eo20⟩ := Kd.R_slice HO158.out; subst eo20; obtain ⟨Ao21, co21, eo21⟩ := Kd.R_slice HO164.out; subst eo21) | ((with_reducible refine zqar (N := 36) rfl ?_); refine Kd.N_lit (Kd.slice 3 (Kd.int .i64)) _ 25 ?hg (N' := 36) ?hd (xs := ([t149, t155, t162] : List (List Int))) (inner := [.slice Ao13 t149.length co13, .slice Ao20 t155.length co20, .slice Ao21 t162.length co21]) (ok := (fun k_ => some k_ ≠ (.slice Ao18 y159.length co18 : Value).ownBlock ∧ k_ ≠ gb148)) (okp := (fun k_ => some k_ ≠ (.slice Ao18 y159.length co18 : Value).ownBlock ∧ k_ ≠ gb148)) ?hr ?hp (fun _ hk => hk) ((show ∀ k_, w19.heap.size ≤ k_ → (fun k_ => some k_ ≠ (.slice Ao18 y159.length co18 : Value).ownBlock ∧ k_ ≠ gb148) k_ from fun k_ hk => ⟨Kd.fresh' (Kd.R_lt (by (with_reducible repeat (first | apply Kd.R_alloc | apply Kd.R_drewN | apply Kd.R_drew)); exact HO161.out)) k_ hk, Kd.freshB (g := gb148) (o := .cells #[.int .i64 a0_0, .bool a0_1, .bool a0_2, .int .i64 a0_3, .int .u8 a0_4, .int .u8 a0_5, .int .u8 a0_6, .int .u8 a0_7, .int .u8 a0_8, .int .u8 a0_9, .int .u8 a0_10, .int .u8 a0_11] 24 (0, 0)) (by (with_reducible repeat (first | refine zqag ?_ _ | refine zqai ?_ | refine zqaf ?_ _)); exact BK148.out) k_ hk⟩) _ (Nat.le_refl _)) (Below.refl _ _) (Nat.le_refl _) (by simp) ?_; (case hd => rfl); (case hg => rfl); (case hr => first | (go_simp; done) | (go_simp; rfl)); (case hp => exact (Reps.one (show Kd.FK (Kd.slice 3 (Kd.int .i64)) _ _ t149 [.slice Ao13 t149.length co13] from (Kd.FK_slice_mk (Kd.R_reads' (Kd.R_mono (ok' := (fun k_ => some k_ ≠ (.slice Ao18 y159.length co18 : Value).ownBlock ∧ k_ ≠ gb148)) (Kd.R_types (HO151.out) BK148.out (by decide)) (fun k_ hk => ⟨hk.1.1.2, hk.2⟩))).2.1 (Kd.R_F (Kd.R_mono (ok' := (fun k_ => some k_ ≠ (.slice Ao18 y159.length co18 : Value).ownBlock ∧ k_ ≠ gb148)) (Kd.R_types (HO151.out) BK148.out (by decide)) (fun k_ hk => ⟨hk.1.1.2, hk.2⟩))))) (Reps.one (show Kd.FK (Kd.slice 3 (Kd.int .i64)) _ _ t155 [.slice Ao20 t155.length co20] from (Kd.FK_slice_mk (Kd.R_reads' (Kd.R_mono (ok' := (fun k_ => some k_ ≠ (.slice Ao18 y159.length co18 : Value).ownBlock ∧ k_ ≠ gb148)) (Kd.R_types (HO158.out) BK148.out (by decide)) (fun k_ hk => ⟨hk.1.1.2, hk.2⟩))).2.1 (Kd.R_F (Kd.R_mono (ok' := (fun k_ => some k_ ≠ (.slice Ao18 y159.length co18 : Value).ownBlock ∧ k_ ≠ gb148)) (Kd.R_types (HO158.out) BK148.out (by decide)) (fun k_ hk => ⟨hk.1.1.2, hk.2⟩))))) (Reps.one (show Kd.FK (Kd.slice 3 (Kd.int .i64)) _ _ t162 [.slice Ao21 t162.length co21] from (Kd.FK_slice_mk (Kd.R_reads' (Kd.R_mono (ok' := (fun k_ => some k_ ≠ (.slice Ao18 y159.length co18 : Value).ownBlock ∧ k_ ≠ gb148)) (Kd.R_types (HO164.out) BK148.out (by decide)) (fun k_ hk => ⟨hk.1.2, hk.2⟩))).2.1 (Kd.R_F (Kd.R_mono (ok' := (fun k_ => some k_ ≠ (.slice Ao18 y159.length co18 : Value).ownBlock ∧ k_ ≠ gb148)) (Kd.R_types (HO164.out) BK148.out (by decide)) (fun k_ hk => ⟨hk.1.2, hk.2⟩))))) (Reps.none _ _))))); intro v166 w22 ho23 hb hg_ hnew_; clear hg_ hnew_; (first | rw [← Ny165.out] at ho23 | (simp only [Int.reduceToNat] at ho23; rw [← Ny165.out] at ho23)); have n0_ := Aside0.mk (Kd.R_below (by (with_reducible repeat (first | apply Kd.R_alloc | apply Kd.R_drewN | apply Kd.R_drew)); exact HO161.out) hb); have n1_ := Aside0.mk (Kd.N_lower ho23 (zqaj (by repeat (with_reducible first | exact HB.out | apply zqad | apply zqac | apply zqae | refine zqah ?_ GE148.out)))); have n2_ := Aside0.mk (zqam (g := gb148) (o := .cells #[.int .i64 a0_0, .bool a0_1, .bool a0_2, .int .i64 a0_3, .int .u8 a0_4, .int .u8 a0_5, .int .u8 a0_6, .int .u8 a0_7, .int .u8 a0_8, .int .u8 a0_9, .int .u8 a0_10, .int .u8 a0_11] 24 (0, 0)) (by (with_reducible repeat (first | refine zqag ?_ _ | refine zqai ?_ | refine zqaf ?_ _)); exact BK148.out) hb); have n3_ := Aside0.mk (zqak (by repeat (with_reducible first | exact HB.out | apply zqad | apply zqac | apply zqae | refine zqah ?_ GE148.out)) hb); clear HO161; clear BK148; clear HB; clear HO151; clear HO158; clear HO164; have HO161 := n0_; have HO167 := n1_; have BK148 := n2_; have HB := n3_; clear n0_ n1_ n2_ n3_; clear hb ho23; obtain ⟨Ao24, co24, eo24⟩ := Kd.N_slice HO167.out; subst eo24) | ((with_reducible refine zqal (f := 49) rfl ?_); refine goesL_ (some 37) rfl rfl Try.func49 (by kernel_rfl) rfl #[.slice Ao24 y165.length co24] rfl (by (try simp only [List.map_toArray, List.map_cons, List.map_nil]); first | done | rfl | (simp only [List.length_drop, List.length_take]; rfl)) ?_; (with_reducible refine (slices_Concat_int_int.calls _ _ y165 t168 _ ?side1 ?side2 A9.out).mono ?_); (case side1 => repeat (first | exact (Kd.N_reads' HO167.out).2.2 | (with_reducible refine Kd.C_alloc ?_ _) | (with_reducible refine Kd.C_drewN ?_ _) | (with_reducible refine Kd.C_drew ?_))); (case side2 => exact (Kd.N_reads' HO167.out).2.1); rintro e w25 ⟨v169, rfl, ho0, hb⟩; refine ⟨_, rfl, ?_⟩; have n0_ := Aside0.mk (Kd.R_elder' (by (with_reducible repeat (first | apply Kd.R_alloc | apply Kd.R_drewN | apply Kd.R_drew)); exact HO161.out) (Kd.R_base ho0) hb); have n1_ := Aside0.mk (Kd.N_elder' (by (with_reducible repeat (first | apply Kd.N_alloc | apply Kd.N_drewN | apply Kd.N_drew)); exact HO167.out) (Kd.R_base ho0) hb); have n2_ := Aside0.mk (Kd.R_lower (Kd.R_new' ho0 (Kd.R_lt (by (with_reducible repeat (first | apply Kd.R_alloc | apply Kd.R_drewN | apply Kd.R_drew)); exact HO161.out))) (zqaj (by repeat (with_reducible first | exact HB.out | apply zqad | apply zqac | apply zqae | refine zqah ?_ GE148.out)))); have n3_ := Aside0.mk (zqam (g := gb148) (o := .cells #[.int .i64 a0_0, .bool a0_1, .bool a0_2, .int .i64 a0_3, .int .u8 a0_4, .int .u8 a0_5, .int .u8 a0_6, .int .u8 a0_7, .int .u8 a0_8, .int .u8 a0_9, .int .u8 a0_10, .int .u8 a0_11] 24 (0, 0)) (by (with_reducible repeat (first | refine zqag ?_ _ | refine zqai ?_ | refine zqaf ?_ _)); exact BK148.out) hb); have n4_ := Aside0.mk (zqak (by repeat (with_reducible first | exact HB.out | apply zqad | apply zqac | apply zqae | refine zqah ?_ GE148.out)) hb); clear HO161; clear HO167; clear BK148; clear HB; have HO161 := n0_; have HO167 := n1_; have HO170 := n2_; have BK148 := n3_; have HB := n4_; clear n0_ n1_ n2_ n3_ n4_; (try clear hb); (try clear hb2); (try clear hk); (try clear hi); (try clear ho0)))
    go_ret2
    exact ⟨_, by first | rfl | (simp [errW_none, errW_some] <;> rfl) | (simp [*, errW_none, errW_some] <;> rfl), by (with_reducible repeat (first | apply Kd.R_alloc | apply Kd.R_drewN | apply Kd.R_drew)); exact Kd.R_mono HO170.out (fun _ hk => trivial), by repeat (with_reducible first | exact HB.out | apply zqad | apply zqac | apply zqae | refine zqah ?_ GE148.out)⟩
   ·
    rw [if_neg c7] at H
    have c7b0 : (t156 == 0) = false := beq_eq_false_iff_ne.mpr c7
    have c7b1 : (t156 != 0) = true := bne_iff_ne.mpr c7
    simp only [Option.some.injEq, Prod.mk.injEq] at H
    obtain ⟨rfl, rfl⟩ := H
    go_enter Try.func17, Try.ntmps17
    go_wp2_with (first | ((with_reducible refine zqar (N := 1) rfl ?_); refine zqav ?hg (N := 1) ?hd (cs := #[.int .i64 a0_0, .bool a0_1, .bool a0_2, .int .i64 a0_3, .int .u8 a0_4, .int .u8 a0_5, .int .u8 a0_6, .int .u8 a0_7, .int .u8 a0_8, .int .u8 a0_9, .int .u8 a0_10, .int .u8 a0_11]) (t := 24) ?hr ?_; (case hd => rfl); (case hg => rfl); (case hr => first | (go_simp; done) | (go_simp; rfl)); intro gb148 hg w26 hbox hb; have n0_ := Aside0.mk (zqak (by repeat (with_reducible first | exact HB.out | apply zqad | apply zqac | apply zqae)) hb); have n1_ := Aside0.mk (hbox); have n2_ := Aside0.mk ((by rw [hg]; exact (zqaj (by repeat (with_reducible first | exact HB.out | apply zqad | apply zqac | apply zqae))) : w.heap.size ≤ gb148)); have n3_ := Aside0.mk ((by rw [hg]; exact (zqaj (by repeat (with_reducible first | exact HB.out | apply zqad | apply zqac | apply zqae))) : w.heap.size ≤ gb148)); clear HB; have HB := n0_; have BK148 := n1_; have GW148 := n2_; have GE148 := n3_; clear n0_ n1_ n2_ n3_; clear hb hbox hg; have hcz27_0 : w26.cell? ⟨gb148, 0, none⟩ = some (.int .i64 a0_0) := (zqab BK148.out 0).trans rfl; have hcz27_1 : w26.cell? ⟨gb148, 1, none⟩ = some (.bool a0_1) := (zqab BK148.out 1).trans rfl; have hcz27_2 : w26.cell? ⟨gb148, 2, none⟩ = some (.bool a0_2) := (zqab BK148.out 2).trans rfl; have hcz27_3 : w26.cell? ⟨gb148, 3, none⟩ = some (.int .i64 a0_3) := (zqab BK148.out 3).trans rfl; have hcz27_4 : w26.cell? ⟨gb148, 4, none⟩ = some (.int .u8 a0_4) := (zqab BK148.out 4).trans rfl; have hcz27_5 : w26.cell? ⟨gb148, 5, none⟩ = some (.int .u8 a0_5) := (zqab BK148.out 5).trans rfl; have hcz27_6 : w26.cell? ⟨gb148, 6, none⟩ = some (.int .u8 a0_6) := (zqab BK148.out 6).trans rfl; have hcz27_7 : w26.cell? ⟨gb148, 7, none⟩ = some (.int .u8 a0_7) := (zqab BK148.out 7).trans rfl; have hcz27_8 : w26.cell? ⟨gb148, 8, none⟩ = some (.int .u8 a0_8) := (zqab BK148.out 8).trans rfl; have hcz27_9 : w26.cell? ⟨gb148, 9, none⟩ = some (.int .u8 a0_9) := (zqab BK148.out 9).trans rfl; have hcz27_10 : w26.cell? ⟨gb148, 10, none⟩ = some (.int .u8 a0_10) := (zqab BK148.out 10).trans rfl; have hcz27_11 : w26.cell? ⟨gb148, 11, none⟩ = some (.int .u8 a0_11) := (zqab BK148.out 11).trans rfl; have hfz27_0 := zqaa BK148.out 0; have hfz27_1 := zqaa BK148.out 1; have hfz27_2 := zqaa BK148.out 2; have hfz27_3 := zqaa BK148.out 3; have hfz27_4 := zqaa BK148.out 4; have hfz27_5 := zqaa BK148.out 5; have hfz27_6 := zqaa BK148.out 6; have hfz27_7 := zqaa BK148.out 7; have hfz27_8 := zqaa BK148.out 8; have hfz27_9 := zqaa BK148.out 9; have hfz27_10 := zqaa BK148.out 10; have hfz27_11 := zqaa BK148.out 11) | ((with_reducible refine zqal (f := 16) rfl ?_); refine goesL_ (some 10) rfl rfl Try.func16 (by kernel_rfl) rfl #[.agg #[.int .i64 a0_0, .bool a0_1, .bool a0_2, .int .i64 a0_3, .int .u8 a0_4, .int .u8 a0_5, .int .u8 a0_6, .int .u8 a0_7, .int .u8 a0_8, .int .u8 a0_9, .int .u8 a0_10, .int .u8 a0_11]] rfl (by (try simp only [List.map_toArray, List.map_cons, List.map_nil]); first | done | rfl | (simp only [List.length_drop, List.length_take]; rfl)) ?_; (with_reducible refine (field_Bits.calls a0_0 a0_1 a0_2 a0_3 a0_4 a0_5 a0_6 a0_7 a0_8 a0_9 a0_10 a0_11 t149 t152 _ A2.out).mono ?_); rintro e w28 ⟨v150, rfl, ho0, hb⟩; refine ⟨_, rfl, ?_⟩; have n0_ := Aside0.mk (Kd.R_lower ho0 (zqaj (by repeat (with_reducible first | exact HB.out | apply zqad | apply zqac | apply zqae | refine zqah ?_ GE148.out)))); have n1_ := Aside0.mk (zqam (g := gb148) (o := .cells #[.int .i64 a0_0, .bool a0_1, .bool a0_2, .int .i64 a0_3, .int .u8 a0_4, .int .u8 a0_5, .int .u8 a0_6, .int .u8 a0_7, .int .u8 a0_8, .int .u8 a0_9, .int .u8 a0_10, .int .u8 a0_11] 24 (0, 0)) (by (with_reducible repeat (first | refine zqag ?_ _ | refine zqai ?_ | refine zqaf ?_ _)); exact BK148.out) hb); have n2_ := Aside0.mk (zqak (by repeat (with_reducible first | exact HB.out | apply zqad | apply zqac | apply zqae | refine zqah ?_ GE148.out)) hb); clear BK148; clear HB; have HO151 := n0_; have BK148 := n1_; have HB := n2_; clear n0_ n1_ n2_; (try clear hb); (try clear hb2); (try clear hk); (try clear hi); (try clear ho0); obtain ⟨Ao29, co29, eo29⟩ := Kd.R_slice HO151.out; subst eo29) | ((with_reducible refine zqal (f := 47) rfl ?_); refine goesL_ (some 18) rfl rfl Try.func47 (by kernel_rfl) rfl #[.slice Ao29 t149.length co29] rfl (by (try simp only [List.map_toArray, List.map_cons, List.map_nil]); first | done | rfl | (simp only [List.length_drop, List.length_take]; rfl)) ?_; (with_reducible refine (crc15_Sum.calls _ _ t149 t153 t154 _ ?side1 ?side2 A4.out).mono ?_); (case side1 => repeat (first | exact (Kd.R_reads' HO151.out).2.2 | (with_reducible refine Kd.C_alloc ?_ _) | (with_reducible refine Kd.C_drewN ?_ _) | (with_reducible refine Kd.C_drew ?_))); (case side2 => exact (Kd.R_reads' HO151.out).2.1); rintro e w30 ⟨rfl, hb⟩; refine ⟨_, rfl, ?_⟩; have n0_ := Aside0.mk (Kd.R_below (by (with_reducible repeat (first | apply Kd.R_alloc | apply Kd.R_drewN | apply Kd.R_drew)); exact HO151.out) hb); have n1_ := Aside0.mk (zqam (g := gb148) (o := .cells #[.int .i64 a0_0, .bool a0_1, .bool a0_2, .int .i64 a0_3, .int .u8 a0_4, .int .u8 a0_5, .int .u8 a0_6, .int .u8 a0_7, .int .u8 a0_8, .int .u8 a0_9, .int .u8 a0_10, .int .u8 a0_11] 24 (0, 0)) (by (with_reducible repeat (first | refine zqag ?_ _ | refine zqai ?_ | refine zqaf ?_ _)); exact BK148.out) hb); have n2_ := Aside0.mk (zqak (by repeat (with_reducible first | exact HB.out | apply zqad | apply zqac | apply zqae | refine zqah ?_ GE148.out)) hb); clear HO151; clear BK148; clear HB; have HO151 := n0_; have BK148 := n1_; have HB := n2_; clear n0_ n1_ n2_; (try clear hb); (try clear hb2); (try clear hk); (try clear hi)) | ((with_reducible refine zqal (f := 48) rfl ?_); refine goesL_ (some 26) rfl rfl Try.func48 (by kernel_rfl) rfl #[.int .i64 t153] rfl (by (try simp only [List.map_toArray, List.map_cons, List.map_nil]); first | done | rfl | (simp only [List.length_drop, List.length_take]; rfl)) ?_; (with_reducible refine (crc15_Bits.calls k t153 t155 t156 _ A6.out).mono ?_); rintro e w31 ⟨v157, rfl, ho0, hb⟩; refine ⟨_, rfl, ?_⟩; have n0_ := Aside0.mk (Kd.R_elder' (by (with_reducible repeat (first | apply Kd.R_alloc | apply Kd.R_drewN | apply Kd.R_drew)); exact HO151.out) (Kd.R_base ho0) hb); have n1_ := Aside0.mk (Kd.R_lower (Kd.R_new' ho0 (Kd.R_lt (by (with_reducible repeat (first | apply Kd.R_alloc | apply Kd.R_drewN | apply Kd.R_drew)); exact HO151.out))) (zqaj (by repeat (with_reducible first | exact HB.out | apply zqad | apply zqac | apply zqae | refine zqah ?_ GE148.out)))); have n2_ := Aside0.mk (zqam (g := gb148) (o := .cells #[.int .i64 a0_0, .bool a0_1, .bool a0_2, .int .i64 a0_3, .int .u8 a0_4, .int .u8 a0_5, .int .u8 a0_6, .int .u8 a0_7, .int .u8 a0_8, .int .u8 a0_9, .int .u8 a0_10, .int .u8 a0_11] 24 (0, 0)) (by (with_reducible repeat (first | refine zqag ?_ _ | refine zqai ?_ | refine zqaf ?_ _)); exact BK148.out) hb); have n3_ := Aside0.mk (zqak (by repeat (with_reducible first | exact HB.out | apply zqad | apply zqac | apply zqae | refine zqah ?_ GE148.out)) hb); clear HO151; clear BK148; clear HB; have HO151 := n0_; have HO158 := n1_; have BK148 := n2_; have HB := n3_; clear n0_ n1_ n2_ n3_; (try clear hb); (try clear hb2); (try clear hk); (try clear hi); (try clear ho0)))
    go_ret2
    exact ⟨_, by first | rfl | (simp [errW_none, errW_some] <;> rfl) | (simp [*, errW_none, errW_some] <;> rfl), by first | exact Kd.R_nil _ _ _ _ _ | exact Kd.N_nil _ _ _ _ _ | exact Kd.V_nil _ _ _ _ _ | exact Kd.Q_nil _ _ _ _ _ | exact Kd.S_nil _ _ _ _ _, by repeat (with_reducible first | exact HB.out | apply zqad | apply zqac | apply zqae | refine zqah ?_ GE148.out)⟩
  ·
   rw [if_neg c5] at H
   have c5b0 : (t154 == 0) = false := beq_eq_false_iff_ne.mpr c5
   have c5b1 : (t154 != 0) = true := bne_iff_ne.mpr c5
   simp only [Option.some.injEq, Prod.mk.injEq] at H
   obtain ⟨rfl, rfl⟩ := H
   go_enter Try.func17, Try.ntmps17
   go_wp2_with (first | ((with_reducible refine zqar (N := 1) rfl ?_); refine zqav ?hg (N := 1) ?hd (cs := #[.int .i64 a0_0, .bool a0_1, .bool a0_2, .int .i64 a0_3, .int .u8 a0_4, .int .u8 a0_5, .int .u8 a0_6, .int .u8 a0_7, .int .u8 a0_8, .int .u8 a0_9, .int .u8 a0_10, .int .u8 a0_11]) (t := 24) ?hr ?_; (case hd => rfl); (case hg => rfl); (case hr => first | (go_simp; done) | (go_simp; rfl)); intro gb148 hg w32 hbox hb; have n0_ := Aside0.mk (zqak (by repeat (with_reducible first | exact HB.out | apply zqad | apply zqac | apply zqae)) hb); have n1_ := Aside0.mk (hbox); have n2_ := Aside0.mk ((by rw [hg]; exact (zqaj (by repeat (with_reducible first | exact HB.out | apply zqad | apply zqac | apply zqae))) : w.heap.size ≤ gb148)); have n3_ := Aside0.mk ((by rw [hg]; exact (zqaj (by repeat (with_reducible first | exact HB.out | apply zqad | apply zqac | apply zqae))) : w.heap.size ≤ gb148)); clear HB; have HB := n0_; have BK148 := n1_; have GW148 := n2_; have GE148 := n3_; clear n0_ n1_ n2_ n3_; clear hb hbox hg; have hcz33_0 : w32.cell? ⟨gb148, 0, none⟩ = some (.int .i64 a0_0) := (zqab BK148.out 0).trans rfl; have hcz33_1 : w32.cell? ⟨gb148, 1, none⟩ = some (.bool a0_1) := (zqab BK148.out 1).trans rfl; have hcz33_2 : w32.cell? ⟨gb148, 2, none⟩ = some (.bool a0_2) := (zqab BK148.out 2).trans rfl; have hcz33_3 : w32.cell? ⟨gb148, 3, none⟩ = some (.int .i64 a0_3) := (zqab BK148.out 3).trans rfl; have hcz33_4 : w32.cell? ⟨gb148, 4, none⟩ = some (.int .u8 a0_4) := (zqab BK148.out 4).trans rfl; have hcz33_5 : w32.cell? ⟨gb148, 5, none⟩ = some (.int .u8 a0_5) := (zqab BK148.out 5).trans rfl; have hcz33_6 : w32.cell? ⟨gb148, 6, none⟩ = some (.int .u8 a0_6) := (zqab BK148.out 6).trans rfl; have hcz33_7 : w32.cell? ⟨gb148, 7, none⟩ = some (.int .u8 a0_7) := (zqab BK148.out 7).trans rfl; have hcz33_8 : w32.cell? ⟨gb148, 8, none⟩ = some (.int .u8 a0_8) := (zqab BK148.out 8).trans rfl; have hcz33_9 : w32.cell? ⟨gb148, 9, none⟩ = some (.int .u8 a0_9) := (zqab BK148.out 9).trans rfl; have hcz33_10 : w32.cell? ⟨gb148, 10, none⟩ = some (.int .u8 a0_10) := (zqab BK148.out 10).trans rfl; have hcz33_11 : w32.cell? ⟨gb148, 11, none⟩ = some (.int .u8 a0_11) := (zqab BK148.out 11).trans rfl; have hfz33_0 := zqaa BK148.out 0; have hfz33_1 := zqaa BK148.out 1; have hfz33_2 := zqaa BK148.out 2; have hfz33_3 := zqaa BK148.out 3; have hfz33_4 := zqaa BK148.out 4; have hfz33_5 := zqaa BK148.out 5; have hfz33_6 := zqaa BK148.out 6; have hfz33_7 := zqaa BK148.out 7; have hfz33_8 := zqaa BK148.out 8; have hfz33_9 := zqaa BK148.out 9; have hfz33_10 := zqaa BK148.out 10; have hfz33_11 := zqaa BK148.out 11) | ((with_reducible refine zqal (f := 16) rfl ?_); refine goesL_ (some 10) rfl rfl Try.func16 (by kernel_rfl) rfl #[.agg #[.int .i64 a0_0, .bool a0_1, .bool a0_2, .int .i64 a0_3, .int .u8 a0_4, .int .u8 a0_5, .int .u8 a0_6, .int .u8 a0_7, .int .u8 a0_8, .int .u8 a0_9, .int .u8 a0_10, .int .u8 a0_11]] rfl (by (try simp only [List.map_toArray, List.map_cons, List.map_nil]); first | done | rfl | (simp only [List.length_drop, List.length_take]; rfl)) ?_; (with_reducible refine (field_Bits.calls a0_0 a0_1 a0_2 a0_3 a0_4 a0_5 a0_6 a0_7 a0_8 a0_9 a0_10 a0_11 t149 t152 _ A2.out).mono ?_); rintro e w34 ⟨v150, rfl, ho0, hb⟩; refine ⟨_, rfl, ?_⟩; have n0_ := Aside0.mk (Kd.R_lower ho0 (zqaj (by repeat (with_reducible first | exact HB.out | apply zqad | apply zqac | apply zqae | refine zqah ?_ GE148.out)))); have n1_ := Aside0.mk (zqam (g := gb148) (o := .cells #[.int .i64 a0_0, .bool a0_1, .bool a0_2, .int .i64 a0_3, .int .u8 a0_4, .int .u8 a0_5, .int .u8 a0_6, .int .u8 a0_7, .int .u8 a0_8, .int .u8 a0_9, .int .u8 a0_10, .int .u8 a0_11] 24 (0, 0)) (by (with_reducible repeat (first | refine zqag ?_ _ | refine zqai ?_ | refine zqaf ?_ _)); exact BK148.out) hb); have n2_ := Aside0.mk (zqak (by repeat (with_reducible first | exact HB.out | apply zqad | apply zqac | apply zqae | refine zqah ?_ GE148.out)) hb); clear BK148; clear HB; have HO151 := n0_; have BK148 := n1_; have HB := n2_; clear n0_ n1_ n2_; (try clear hb); (try clear hb2); (try clear hk); (try clear hi); (try clear ho0); obtain ⟨Ao35, co35, eo35⟩ := Kd.R_slice HO151.out; subst eo35) | ((with_reducible refine zqal (f := 47) rfl ?_); refine goesL_ (some 18) rfl rfl Try.func47 (by kernel_rfl) rfl #[.slice Ao35 t149.length co35] rfl (by (try simp only [List.map_toArray, List.map_cons, List.map_nil]); first | done | rfl | (simp only [List.length_drop, List.length_take]; rfl)) ?_; (with_reducible refine (crc15_Sum.calls _ _ t149 t153 t154 _ ?side1 ?side2 A4.out).mono ?_); (case side1 => repeat (first | exact (Kd.R_reads' HO151.out).2.2 | (with_reducible refine Kd.C_alloc ?_ _) | (with_reducible refine Kd.C_drewN ?_ _) | (with_reducible refine Kd.C_drew ?_))); (case side2 => exact (Kd.R_reads' HO151.out).2.1); rintro e w36 ⟨rfl, hb⟩; refine ⟨_, rfl, ?_⟩; have n0_ := Aside0.mk (Kd.R_below (by (with_reducible repeat (first | apply Kd.R_alloc | apply Kd.R_drewN | apply Kd.R_drew)); exact HO151.out) hb); have n1_ := Aside0.mk (zqam (g := gb148) (o := .cells #[.int .i64 a0_0, .bool a0_1, .bool a0_2, .int .i64 a0_3, .int .u8 a0_4, .int .u8 a0_5, .int .u8 a0_6, .int .u8 a0_7, .int .u8 a0_8, .int .u8 a0_9, .int .u8 a0_10, .int .u8 a0_11] 24 (0, 0)) (by (with_reducible repeat (first | refine zqag ?_ _ | refine zqai ?_ | refine zqaf ?_ _)); exact BK148.out) hb); have n2_ := Aside0.mk (zqak (by repeat (with_reducible first | exact HB.out | apply zqad | apply zqac | apply zqae | refine zqah ?_ GE148.out)) hb); clear HO151; clear BK148; clear HB; have HO151 := n0_; have BK148 := n1_; have HB := n2_; clear n0_ n1_ n2_; (try clear hb); (try clear hb2); (try clear hk); (try clear hi)))
   go_ret2
   exact ⟨_, by first | rfl | (simp [errW_none, errW_some] <;> rfl) | (simp [*, errW_none, errW_some] <;> rfl), by first | exact Kd.R_nil _ _ _ _ _ | exact Kd.N_nil _ _ _ _ _ | exact Kd.V_nil _ _ _ _ _ | exact Kd.Q_nil _ _ _ _ _ | exact Kd.S_nil _ _ _ _ _, by repeat (with_reducible first | exact HB.out | apply zqad | apply zqac | apply zqae | refine zqah ?_ GE148.out)⟩
 ·
  rw [if_neg c3] at H
  have c3b0 : (t152 == 0) = false := beq_eq_false_iff_ne.mpr c3
  have c3b1 : (t152 != 0) = true := bne_iff_ne.mpr c3
  simp only [Option.some.injEq, Prod.mk.injEq] at H
  obtain ⟨rfl, rfl⟩ := H
  go_enter Try.func17, Try.ntmps17
  go_wp2_with (first | ((with_reducible refine zqar (N := 1) rfl ?_); refine zqav ?hg (N := 1) ?hd (cs := #[.int .i64 a0_0, .bool a0_1, .bool a0_2, .int .i64 a0_3, .int .u8 a0_4, .int .u8 a0_5, .int .u8 a0_6, .int .u8 a0_7, .int .u8 a0_8, .int .u8 a0_9, .int .u8 a0_10, .int .u8 a0_11]) (t := 24) ?hr ?_; (case hd => rfl); (case hg => rfl); (case hr => first | (go_simp; done) | (go_simp; rfl)); intro gb148 hg w37 hbox hb; have n0_ := Aside0.mk (zqak (by repeat (with_reducible first | exact HB.out | apply zqad | apply zqac | apply zqae)) hb); have n1_ := Aside0.mk (hbox); have n2_ := Aside0.mk ((by rw [hg]; exact (zqaj (by repeat (with_reducible first | exact HB.out | apply zqad | apply zqac | apply zqae))) : w.heap.size ≤ gb148)); have n3_ := Aside0.mk ((by rw [hg]; exact (zqaj (by repeat (with_reducible first | exact HB.out | apply zqad | apply zqac | apply zqae))) : w.heap.size ≤ gb148)); clear HB; have HB := n0_; have BK148 := n1_; have GW148 := n2_; have GE148 := n3_; clear n0_ n1_ n2_ n3_; clear hb hbox hg; have hcz38_0 : w37.cell? ⟨gb148, 0, none⟩ = some (.int .i64 a0_0) := (zqab BK148.out 0).trans rfl; have hcz38_1 : w37.cell? ⟨gb148, 1, none⟩ = some (.bool a0_1) := (zqab BK148.out 1).trans rfl; have hcz38_2 : w37.cell? ⟨gb148, 2, none⟩ = some (.bool a0_2) := (zqab BK148.out 2).trans rfl; have hcz38_3 : w37.cell? ⟨gb148, 3, none⟩ = some (.int .i64 a0_3) := (zqab BK148.out 3).trans rfl; have hcz38_4 : w37.cell? ⟨gb148, 4, none⟩ = some (.int .u8 a0_4) := (zqab BK148.out 4).trans rfl; have hcz38_5 : w37.cell? ⟨gb148, 5, none⟩ = some (.int .u8 a0_5) := (zqab BK148.out 5).trans rfl; have hcz38_6 : w37.cell? ⟨gb148, 6, none⟩ = some (.int .u8 a0_6) := (zqab BK148.out 6).trans rfl; have hcz38_7 : w37.cell? ⟨gb148, 7, none⟩ = some (.int .u8 a0_7) := (zqab BK148.out 7).trans rfl; have hcz38_8 : w37.cell? ⟨gb148, 8, none⟩ = some (.int .u8 a0_8) := (zqab BK148.out 8).trans rfl; have hcz38_9 : w37.cell? ⟨gb148, 9, none⟩ = some (.int .u8 a0_9) := (zqab BK148.out 9).trans rfl; have hcz38_10 : w37.cell? ⟨gb148, 10, none⟩ = some (.int .u8 a0_10) := (zqab BK148.out 10).trans rfl; have hcz38_11 : w37.cell? ⟨gb148, 11, none⟩ = some (.int .u8 a0_11) := (zqab BK148.out 11).trans rfl; have hfz38_0 := zqaa BK148.out 0; have hfz38_1 := zqaa BK148.out 1; have hfz38_2 := zqaa BK148.out 2; have hfz38_3 := zqaa BK148.out 3; have hfz38_4 := zqaa BK148.out 4; have hfz38_5 := zqaa BK148.out 5; have hfz38_6 := zqaa BK148.out 6; have hfz38_7 := zqaa BK148.out 7; have hfz38_8 := zqaa BK148.out 8; have hfz38_9 := zqaa BK148.out 9; have hfz38_10 := zqaa BK148.out 10; have hfz38_11 := zqaa BK148.out 11) | ((with_reducible refine zqal (f := 16) rfl ?_); refine goesL_ (some 10) rfl rfl Try.func16 (by kernel_rfl) rfl #[.agg #[.int .i64 a0_0, .bool a0_1, .bool a0_2, .int .i64 a0_3, .int .u8 a0_4, .int .u8 a0_5, .int .u8 a0_6, .int .u8 a0_7, .int .u8 a0_8, .int .u8 a0_9, .int .u8 a0_10, .int .u8 a0_11]] rfl (by (try simp only [List.map_toArray, List.map_cons, List.map_nil]); first | done | rfl | (simp only [List.length_drop, List.length_take]; rfl)) ?_; (with_reducible refine (field_Bits.calls a0_0 a0_1 a0_2 a0_3 a0_4 a0_5 a0_6 a0_7 a0_8 a0_9 a0_10 a0_11 t149 t152 _ A2.out).mono ?_); rintro e w39 ⟨v150, rfl, ho0, hb⟩; refine ⟨_, rfl, ?_⟩; have n0_ := Aside0.mk (Kd.R_lower ho0 (zqaj (by repeat (with_reducible first | exact HB.out | apply zqad | apply zqac | apply zqae | refine zqah ?_ GE148.out)))); have n1_ := Aside0.mk (zqam (g := gb148) (o := .cells #[.int .i64 a0_0, .bool a0_1, .bool a0_2, .int .i64 a0_3, .int .u8 a0_4, .int .u8 a0_5, .int .u8 a0_6, .int .u8 a0_7, .int .u8 a0_8, .int .u8 a0_9, .int .u8 a0_10, .int .u8 a0_11] 24 (0, 0)) (by (with_reducible repeat (first | refine zqag ?_ _ | refine zqai ?_ | refine zqaf ?_ _)); exact BK148.out) hb); have n2_ := Aside0.mk (zqak (by repeat (with_reducible first | exact HB.out | apply zqad | apply zqac | apply zqae | refine zqah ?_ GE148.out)) hb); clear BK148; clear HB; have HO151 := n0_; have BK148 := n1_; have HB := n2_; clear n0_ n1_ n2_; (try clear hb); (try clear hb2); (try clear hk); (try clear hi); (try clear ho0)))
  go_ret2
  exact ⟨_, by first | rfl | (simp [errW_none, errW_some] <;> rfl) | (simp [*, errW_none, errW_some] <;> rfl), by first | exact Kd.R_nil _ _ _ _ _ | exact Kd.N_nil _ _ _ _ _ | exact Kd.V_nil _ _ _ _ _ | exact Kd.Q_nil _ _ _ _ _ | exact Kd.S_nil _ _ _ _ _, by repeat (with_reducible first | exact HB.out | apply zqad | apply zqac | apply zqae | refine zqah ?_ GE148.out)⟩

/-! ### magnetoref03_Check: function 18 -/
mutual
def magnetoref03_Check.j0 : Nat → Int → Int → Bool → Bool → Int → Int → Int → Int → Int → Int → Int → Int → Int → Option (Int)
 | 0, _, _, _, _, _, _, _, _, _, _, _, _, _ => none
 | k + 1, x3, x172000, x172001, x172002, x172003, x172004, x172005, x172006, x172007, x172008, x172009, x172010, x172011 => if x172000 < 0 then (magnetoref03_Check.j1 k true x172000 x172001 x172002 x172003 x172004 x172005 x172006 x172007 x172008 x172009 x172010 x172011) else (if x172000 > x3 then (magnetoref03_Check.j1 k true x172000 x172001 x172002 x172003 x172004 x172005 x172006 x172007 x172008 x172009 x172010 x172011) else (if x172003 < 0 then (magnetoref03_Check.j1 k true x172000 x172001 x172002 x172003 x172004 x172005 x172006 x172007 x172008 x172009 x172010 x172011) else (magnetoref03_Check.j1 k (decide (x172003 > 8)) x172000 x172001 x172002 x172003 x172004 x172005 x172006 x172007 x172008 x172009 x172010 x172011)))
def magnetoref03_Check.j1 : Nat → Bool → Int → Bool → Bool → Int → Int → Int → Int → Int → Int → Int → Int → Int → Option (Int)
 | 0, _, _, _, _, _, _, _, _, _, _, _, _, _ => none
 | k + 1, x25, x172000, x172001, x172002, x172003, x172004, x172005, x172006, x172007, x172008, x172009, x172010, x172011 => if x25 = true then (some 14) else (magnetoref03_Check.l0 k 0 x172000 x172001 x172002 x172003 x172004 x172005 x172006 x172007 x172008 x172009 x172010 x172011)
def magnetoref03_Check.l0 : Nat → Int → Int → Bool → Bool → Int → Int → Int → Int → Int → Int → Int → Int → Int → Option (Int)
 | 0, _, _, _, _, _, _, _, _, _, _, _, _, _ => none
 | k + 1, x4, x172000, x172001, x172002, x172003, x172004, x172005, x172006, x172007, x172008, x172009, x172010, x172011 => if x4 < 8 then (if 0 ≤ x4 then (if (rd ([x172004, x172005, x172006, x172007, x172008, x172009, x172010, x172011] : List Int) x4) = 0 then (magnetoref03_Check.l0 k (wrap64 (x4 + 1)) x172000 x172001 x172002 x172003 x172004 x172005 x172006 x172007 x172008 x172009 x172010 x172011) else (if x172002 = true then (some 14) else (if x4 ≥ x172003 then (some 14) else (magnetoref03_Check.l0 k (wrap64 (x4 + 1)) x172000 x172001 x172002 x172003 x172004 x172005 x172006 x172007 x172008 x172009 x172010 x172011)))) else (none)) else (some 0)
end
def magnetoref03_Check.f (k : Nat) (a0_0 : Int) (a0_1 : Bool) (a0_2 : Bool) (a0_3 : Int) (a0_4 : Int) (a0_5 : Int) (a0_6 : Int) (a0_7 : Int) (a0_8 : Int) (a0_9 : Int) (a0_10 : Int) (a0_11 : Int) : Option (Int) := if a0_1 = true then (magnetoref03_Check.j0 k 536870911 a0_0 a0_1 a0_2 a0_3 a0_4 a0_5 a0_6 a0_7 a0_8 a0_9 a0_10 a0_11) else (magnetoref03_Check.j0 k 2047 a0_0 a0_1 a0_2 a0_3 a0_4 a0_5 a0_6 a0_7 a0_8 a0_9 a0_10 a0_11)
theorem magnetoref03_Check.mono_l : ∀ k, (∀ y0 y1 y2 y3 y4 y5 y6 y7 y8 y9 y10 y11 y12, LeO (magnetoref03_Check.j0 k y0 y1 y2 y3 y4 y5 y6 y7 y8 y9 y10 y11 y12) (magnetoref03_Check.j0 (k + 1) y0 y1 y2 y3 y4 y5 y6 y7 y8 y9 y10 y11 y12)) ∧ (∀ y0 y1 y2 y3 y4 y5 y6 y7 y8 y9 y10 y11 y12, LeO (magnetoref03_Check.j1 k y0 y1 y2 y3 y4 y5 y6 y7 y8 y9 y10 y11 y12) (magnetoref03_Check.j1 (k + 1) y0 y1 y2 y3 y4 y5 y6 y7 y8 y9 y10 y11 y12)) ∧ (∀ y0 y1 y2 y3 y4 y5 y6 y7 y8 y9 y10 y11 y12, LeO (magnetoref03_Check.l0 k y0 y1 y2 y3 y4 y5 y6 y7 y8 y9 y10 y11 y12) (magnetoref03_Check.l0 (k + 1) y0 y1 y2 y3 y4 y5 y6 y7 y8 y9 y10 y11 y12))
 | 0 => ⟨fun _ _ _ _ _ _ _ _ _ _ _ _ _ r h => by simp [magnetoref03_Check.j0] at h, fun _ _ _ _ _ _ _ _ _ _ _ _ _ r h => by simp [magnetoref03_Check.j1] at h, fun _ _ _ _ _ _ _ _ _ _ _ _ _ r h => by simp [magnetoref03_Check.l0] at h⟩
 | k + 1 => by
  obtain ⟨ih0, ih1, ih2⟩ := magnetoref03_Check.mono_l k
  refine ⟨?_, ?_, ?_⟩
  ·
   intro y0 y1 y2 y3 y4 y5 y6 y7 y8 y9 y10 y11 y12
   unfold magnetoref03_Check.j0
   repeat' first
   | (with_reducible exact ih0 _ _ _ _ _ _ _ _ _ _ _ _ _)
   | (with_reducible exact ih1 _ _ _ _ _ _ _ _ _ _ _ _ _)
   | (with_reducible exact ih2 _ _ _ _ _ _ _ _ _ _ _ _ _)
   | (with_reducible exact LeO.refl _)
   | (with_reducible exact LeO.none _)
   | (with_reducible refine LeO.ite ?_ ?_)
   | (with_reducible refine LeO.bind ?_ (fun _ => ?_))
   | exact ih0 _ _ _ _ _ _ _ _ _ _ _ _ _
   | exact ih1 _ _ _ _ _ _ _ _ _ _ _ _ _
   | exact ih2 _ _ _ _ _ _ _ _ _ _ _ _ _
   | exact LeO.none _
   | refine LeO.ite ?_ ?_
   | refine LeO.bind ?_ (fun _ => ?_)
  ·
   intro y0 y1 y2 y3 y4 y5 y6 y7 y8 y9 y10 y11 y12
   unfold magnetoref03_Check.j1
   repeat' first
   | (with_reducible exact ih0 _ _ _ _ _ _ _ _ _ _ _ _ _)
   | (with_reducible exact ih1 _ _ _ _ _ _ _ _ _ _ _ _ _)
   | (with_reducible exact ih2 _ _ _ _ _ _ _ _ _ _ _ _ _)
   | (with_reducible exact LeO.refl _)
   | (with_reducible exact LeO.none _)
   | (with_reducible refine LeO.ite ?_ ?_)
   | (with_reducible refine LeO.bind ?_ (fun _ => ?_))
   | exact ih0 _ _ _ _ _ _ _ _ _ _ _ _ _
   | exact ih1 _ _ _ _ _ _ _ _ _ _ _ _ _
   | exact ih2 _ _ _ _ _ _ _ _ _ _ _ _ _
   | exact LeO.none _
   | refine LeO.ite ?_ ?_
   | refine LeO.bind ?_ (fun _ => ?_)
  ·
   intro y0 y1 y2 y3 y4 y5 y6 y7 y8 y9 y10 y11 y12
   unfold magnetoref03_Check.l0
   repeat' first
   | (with_reducible exact ih0 _ _ _ _ _ _ _ _ _ _ _ _ _)
   | (with_reducible exact ih1 _ _ _ _ _ _ _ _ _ _ _ _ _)
   | (with_reducible exact ih2 _ _ _ _ _ _ _ _ _ _ _ _ _)
   | (with_reducible exact LeO.refl _)
   | (with_reducible exact LeO.none _)
   | (with_reducible refine LeO.ite ?_ ?_)
   | (with_reducible refine LeO.bind ?_ (fun _ => ?_))
   | exact ih0 _ _ _ _ _ _ _ _ _ _ _ _ _
   | exact ih1 _ _ _ _ _ _ _ _ _ _ _ _ _
   | exact ih2 _ _ _ _ _ _ _ _ _ _ _ _ _
   | exact LeO.none _
   | refine LeO.ite ?_ ?_
   | refine LeO.bind ?_ (fun _ => ?_)
theorem magnetoref03_Check.mono : ∀ a0 a1 a2 a3 a4 a5 a6 a7 a8 a9 a10 a11 k, LeO (magnetoref03_Check.f k a0 a1 a2 a3 a4 a5 a6 a7 a8 a9 a10 a11) (magnetoref03_Check.f (k + 1) a0 a1 a2 a3 a4 a5 a6 a7 a8 a9 a10 a11) := by
 intro a0 a1 a2 a3 a4 a5 a6 a7 a8 a9 a10 a11 k
 obtain ⟨ih0, ih1, ih2⟩ := magnetoref03_Check.mono_l k
 unfold magnetoref03_Check.f
 repeat' first
   | (with_reducible exact ih0 _ _ _ _ _ _ _ _ _ _ _ _ _)
   | (with_reducible exact ih1 _ _ _ _ _ _ _ _ _ _ _ _ _)
   | (with_reducible exact ih2 _ _ _ _ _ _ _ _ _ _ _ _ _)
   | (with_reducible exact LeO.refl _)
   | (with_reducible exact LeO.none _)
   | (with_reducible refine LeO.ite ?_ ?_)
   | (with_reducible refine LeO.bind ?_ (fun _ => ?_))
   | exact ih0 _ _ _ _ _ _ _ _ _ _ _ _ _
   | exact ih1 _ _ _ _ _ _ _ _ _ _ _ _ _
   | exact ih2 _ _ _ _ _ _ _ _ _ _ _ _ _
   | exact LeO.none _
   | refine LeO.ite ?_ ?_
   | refine LeO.bind ?_ (fun _ => ?_)
set_option maxHeartbeats 8000000 in
set_option maxRecDepth 100000 in
theorem magnetoref03_Check.calls (k : Nat) (a0_0 : Int) (a0_1 : Bool) (a0_2 : Bool) (a0_3 : Int) (a0_4 : Int) (a0_5 : Int) (a0_6 : Int) (a0_7 : Int) (a0_8 : Int) (a0_9 : Int) (a0_10 : Int) (a0_11 : Int) (r : Int) (w : World) (h : magnetoref03_Check.f k a0_0 a0_1 a0_2 a0_3 a0_4 a0_5 a0_6 a0_7 a0_8 a0_9 a0_10 a0_11 = some r) :
  Calls Try.prog 18 #[.agg #[.int .i64 a0_0, .bool a0_1, .bool a0_2, .int .i64 a0_3, .int .u8 a0_4, .int .u8 a0_5, .int .u8 a0_6, .int .u8 a0_7, .int .u8 a0_8, .int .u8 a0_9, .int .u8 a0_10, .int .u8 a0_11]] w fun e w' => e = .returned (.int .i64 r) ∧ Below w.heap.size w w' := by
 have hu24 := Try.underlying24
 have HB := Aside0.mk (Below.refl w.heap.size w)
 have H : (if a0_1 = true then (magnetoref03_Check.j0 k 536870911 a0_0 a0_1 a0_2 a0_3 a0_4 a0_5 a0_6 a0_7 a0_8 a0_9 a0_10 a0_11) else (magnetoref03_Check.j0 k 2047 a0_0 a0_1 a0_2 a0_3 a0_4 a0_5 a0_6 a0_7 a0_8 a0_9 a0_10 a0_11)) = some r := h
 clear h
 have HC2 := Aside0.mk H
 clear H
 go_enter Try.func18, Try.ntmps18
 go_upto_if 6 with (first | ((with_reducible refine zqar (N := 1) rfl ?_); refine zqav ?hg (N := 1) ?hd (cs := #[.int .i64 a0_0, .bool a0_1, .bool a0_2, .int .i64 a0_3, .int .u8 a0_4, .int .u8 a0_5, .int .u8 a0_6, .int .u8 a0_7, .int .u8 a0_8, .int .u8 a0_9, .int .u8 a0_10, .int .u8 a0_11]) (t := 24) ?hr ?_; (case hd => rfl); (case hg => rfl); (case hr => first | (go_simp; done) | (go_simp; rfl)); intro gb171 hg w3 hbox hb; have n0_ := Aside0.mk (zqak (by repeat (with_reducible first | exact HB.out | apply zqad | apply zqac | apply zqae)) hb); have n1_ := Aside0.mk (hbox); have n2_ := Aside0.mk ((by rw [hg]; exact (zqaj (by repeat (with_reducible first | exact HB.out | apply zqad | apply zqac | apply zqae))) : w.heap.size ≤ gb171)); have n3_ := Aside0.mk ((by rw [hg]; exact (zqaj (by repeat (with_reducible first | exact HB.out | apply zqad | apply zqac | apply zqae))) : w.heap.size ≤ gb171)); clear HB; have HB := n0_; have BK171 := n1_; have GW171 := n2_; have GE171 := n3_; clear n0_ n1_ n2_ n3_; clear hb hbox hg; have hcz4_0 : w3.cell? ⟨gb171, 0, none⟩ = some (.int .i64 a0_0) := (zqab BK171.out 0).trans rfl; have hcz4_1 : w3.cell? ⟨gb171, 1, none⟩ = some (.bool a0_1) := (zqab BK171.out 1).trans rfl; have hcz4_2 : w3.cell? ⟨gb171, 2, none⟩ = some (.bool a0_2) := (zqab BK171.out 2).trans rfl; have hcz4_3 : w3.cell? ⟨gb171, 3, none⟩ = some (.int .i64 a0_3) := (zqab BK171.out 3).trans rfl; have hcz4_4 : w3.cell? ⟨gb171, 4, none⟩ = some (.int .u8 a0_4) := (zqab BK171.out 4).trans rfl; have hcz4_5 : w3.cell? ⟨gb171, 5, none⟩ = some (.int .u8 a0_5) := (zqab BK171.out 5).trans rfl; have hcz4_6 : w3.cell? ⟨gb171, 6, none⟩ = some (.int .u8 a0_6) := (zqab BK171.out 6).trans rfl; have hcz4_7 : w3.cell? ⟨gb171, 7, none⟩ = some (.int .u8 a0_7) := (zqab BK171.out 7).trans rfl; have hcz4_8 : w3.cell? ⟨gb171, 8, none⟩ = some (.int .u8 a0_8) := (zqab BK171.out 8).trans rfl; have hcz4_9 : w3.cell? ⟨gb171, 9, none⟩ = some (.int .u8 a0_9) := (zqab BK171.out 9).trans rfl; have hcz4_10 : w3.cell? ⟨gb171, 10, none⟩ = some (.int .u8 a0_10) := (zqab BK171.out 10).trans rfl; have hcz4_11 : w3.cell? ⟨gb171, 11, none⟩ = some (.int .u8 a0_11) := (zqab BK171.out 11).trans rfl; have hfz4_0 := zqaa BK171.out 0; have hfz4_1 := zqaa BK171.out 1; have hfz4_2 := zqaa BK171.out 2; have hfz4_3 := zqaa BK171.out 3; have hfz4_4 := zqaa BK171.out 4; have hfz4_5 := zqaa BK171.out 5; have hfz4_6 := zqaa BK171.out 6; have hfz4_7 := zqaa BK171.out 7; have hfz4_8 := zqaa BK171.out 8; have hfz4_9 := zqaa BK171.out 9; have hfz4_10 := zqaa BK171.out 10; have hfz4_11 := zqaa BK171.out 11))
 (try simp only [Act.put, List.setIfInBounds_toArray, List.set_cons_zero, List.set_cons_succ])
 go_cut [3] (fun v3 wc => ∃ (kq : Nat) (x3_1 : Int), v3 = .int .i64 x3_1 ∧ Aside0 (magnetoref03_Check.j0 kq x3_1 a0_0 a0_1 a0_2 a0_3 a0_4 a0_5 a0_6 a0_7 a0_8 a0_9 a0_10 a0_11 = some r) ∧ Aside0 (kq ≤ k) ∧ Aside0 (wc.heap[gb171]? = some (.cells #[.int .i64 a0_0, .bool a0_1, .bool a0_2, .int .i64 a0_3, .int .u8 a0_4, .int .u8 a0_5, .int .u8 a0_6, .int .u8 a0_7, .int .u8 a0_8, .int .u8 a0_9, .int .u8 a0_10, .int .u8 a0_11] 24 (0, 0))) ∧ Aside0 (Below w.heap.size w wc))
 case first =>
  have H := HC2.out
  clear HC2
  by_cases c5 : a0_1 = true
  ·
   subst c5
   have H1 : (magnetoref03_Check.j0 k 536870911 a0_0 true a0_2 a0_3 a0_4 a0_5 a0_6 a0_7 a0_8 a0_9 a0_10 a0_11) = some r := by rw [if_pos rfl] at H; exact H
   clear H
   have H := H1
   clear H1
   have H' := Aside0.mk H
   clear H
   go_wp2
   go_meet
   case rel => exact ⟨_, (536870911), (by first | rfl | (simp; done) | (simp [*]; done)), H', ⟨by first | omega | exact Nat.le_refl _⟩, ⟨by (with_reducible repeat (first | refine zqag ?_ _ | refine zqai ?_ | refine zqaf ?_ _)); exact BK171.out⟩, ⟨by repeat (with_reducible first | exact HB.out | apply zqad | apply zqac | apply zqae | refine zqah ?_ GE171.out)⟩⟩
  ·
   replace c5 := Bool.eq_false_iff.mpr c5
   subst c5
   have H1 : (magnetoref03_Check.j0 k 2047 a0_0 false a0_2 a0_3 a0_4 a0_5 a0_6 a0_7 a0_8 a0_9 a0_10 a0_11) = some r := by rw [if_neg (show ¬ (false = true) by decide)] at H; exact H
   clear H
   have H := H1
   clear H1
   have H' := Aside0.mk H
   clear H
   go_wp2
   go_meet
   case rel => exact ⟨_, (2047), (by first | rfl | (simp; done) | (simp [*]; done)), H', ⟨by first | omega | exact Nat.le_refl _⟩, ⟨by (with_reducible repeat (first | refine zqag ?_ _ | refine zqai ?_ | refine zqaf ?_ _)); exact BK171.out⟩, ⟨by repeat (with_reducible first | exact HB.out | apply zqad | apply zqac | apply zqae | refine zqah ?_ GE171.out)⟩⟩
 case rest =>
  clear HC2
  try clear c1
  try clear p2
  try clear c5
  try clear hcz4_0
  try clear hcz4_1
  try clear hcz4_10
  try clear hcz4_11
  try clear hcz4_2
  try clear hcz4_3
  try clear hcz4_4
  try clear hcz4_5
  try clear hcz4_6
  try clear hcz4_7
  try clear hcz4_8
  try clear hcz4_9
  try clear hfz4_0
  try clear hfz4_1
  try clear hfz4_10
  try clear hfz4_11
  try clear hfz4_2
  try clear hfz4_3
  try clear hfz4_4
  try clear hfz4_5
  try clear hfz4_6
  try clear hfz4_7
  try clear hfz4_8
  try clear hfz4_9
  obtain ⟨kq, x3_1, rfl, HA, HJ1, BK171, HB⟩ := hcut
  cases kq with
  | zero => exact absurd HA.out (by simp [magnetoref03_Check.j0])
  | succ kj1 =>
   have H := HA.out
   clear HA
   simp only [magnetoref03_Check.j0] at H
   have HC6 := Aside0.mk H
   clear H
   go_upto_region 4 with (fail)
   go_cut [25] (fun v25 wc => ∃ (kq : Nat) (x25_5 : Bool), v25 = .bool x25_5 ∧ Aside0 (magnetoref03_Check.j1 kq x25_5 a0_0 a0_1 a0_2 a0_3 a0_4 a0_5 a0_6 a0_7 a0_8 a0_9 a0_10 a0_11 = some r) ∧ Aside0 (kq ≤ kj1) ∧ Aside0 (wc.heap[gb171]? = some (.cells #[.int .i64 a0_0, .bool a0_1, .bool a0_2, .int .i64 a0_3, .int .u8 a0_4, .int .u8 a0_5, .int .u8 a0_6, .int .u8 a0_7, .int .u8 a0_8, .int .u8 a0_9, .int .u8 a0_10, .int .u8 a0_11] 24 (0, 0))) ∧ Aside0 (Below w.heap.size w wc))
   case first =>
    have H := HC6.out
    clear HC6
    by_cases c7 : a0_0 < 0
    ·
     rw [if_pos c7] at H
     have c7b0 : decide (a0_0 < 0) = true := decide_eq_true c7
     clear c7
     (first | rw [c7b0] | (simp only [i64_w, i32_w]; rw [c7b0]) | skip)
     have H' := Aside0.mk H
     clear H
     have hcz8_0 : wc.cell? ⟨gb171, 0, none⟩ = some (.int .i64 a0_0) := (zqab BK171.out 0).trans rfl
     have hcz8_1 : wc.cell? ⟨gb171, 1, none⟩ = some (.bool a0_1) := (zqab BK171.out 1).trans rfl
     have hcz8_2 : wc.cell? ⟨gb171, 2, none⟩ = some (.bool a0_2) := (zqab BK171.out 2).trans rfl
     have hcz8_3 : wc.cell? ⟨gb171, 3, none⟩ = some (.int .i64 a0_3) := (zqab BK171.out 3).trans rfl
     have hcz8_4 : wc.cell? ⟨gb171, 4, none⟩ = some (.int .u8 a0_4) := (zqab BK171.out 4).trans rfl
     have hcz8_5 : wc.cell? ⟨gb171, 5, none⟩ = some (.int .u8 a0_5) := (zqab BK171.out 5).trans rfl
     have hcz8_6 : wc.cell? ⟨gb171, 6, none⟩ = some (.int .u8 a0_6) := (zqab BK171.out 6).trans rfl
     have hcz8_7 : wc.cell? ⟨gb171, 7, none⟩ = some (.int .u8 a0_7) := (zqab BK171.out 7).trans rfl
     have hcz8_8 : wc.cell? ⟨gb171, 8, none⟩ = some (.int .u8 a0_8) := (zqab BK171.out 8).trans rfl
     have hcz8_9 : wc.cell? ⟨gb171, 9, none⟩ = some (.int .u8 a0_9) := (zqab BK171.out 9).trans rfl
     have hcz8_10 : wc.cell? ⟨gb171, 10, none⟩ = some (.int .u8 a0_10) := (zqab BK171.out 10).trans rfl
     have hcz8_11 : wc.cell? ⟨gb171, 11, none⟩ = some (.int .u8 a0_11) := (zqab BK171.out 11).trans rfl
     have hfz8_0 := zqaa BK171.out 0
     have hfz8_1 := zqaa BK171.out 1
     have hfz8_2 := zqaa BK171.out 2
     have hfz8_3 := zqaa BK171.out 3
     have hfz8_4 := zqaa BK171.out 4
     have hfz8_5 := zqaa BK171.out 5
     have hfz8_6 := zqaa BK171.out 6
     have hfz8_7 := zqaa BK171.out 7
     have hfz8_8 := zqaa BK171.out 8
     have hfz8_9 := zqaa BK171.out 9
     have hfz8_10 := zqaa BK171.out 10
     have hfz8_11 := zqaa BK171.out 11
     go_wp2
     go_meet
     case rel => exact ⟨_, (true), (by first | rfl | (simp; done) | (simp [*]; done)), H', ⟨by have := HJ1.out; first | omega | exact Nat.le_refl _⟩, ⟨by (with_reducible repeat (first | refine zqag ?_ _ | refine zqai ?_ | refine zqaf ?_ _)); exact BK171.out⟩, ⟨by repeat (with_reducible first | exact HB.out | apply zqad | apply zqac | apply zqae | refine zqah ?_ GE171.out)⟩⟩
    ·
     rw [if_neg c7] at H
     have c7b0 : decide (a0_0 < 0) = false := decide_eq_false c7
     clear c7
     (first | rw [c7b0] | (simp only [i64_w, i32_w]; rw [c7b0]) | skip)
     by_cases c9 : a0_0 > x3_1
     ·
      rw [if_pos c9] at H
      have c9b0 : decide (x3_1 < a0_0) = true := decide_eq_true c9
      clear c9
      have H' := Aside0.mk H
      clear H
      have hcz10_0 : wc.cell? ⟨gb171, 0, none⟩ = some (.int .i64 a0_0) := (zqab BK171.out 0).trans rfl
      have hcz10_1 : wc.cell? ⟨gb171, 1, none⟩ = some (.bool a0_1) := (zqab BK171.out 1).trans rfl
      have hcz10_2 : wc.cell? ⟨gb171, 2, none⟩ = some (.bool a0_2) := (zqab BK171.out 2).trans rfl
      have hcz10_3 : wc.cell? ⟨gb171, 3, none⟩ = some (.int .i64 a0_3) := (zqab BK171.out 3).trans rfl
      have hcz10_4 : wc.cell? ⟨gb171, 4, none⟩ = some (.int .u8 a0_4) := (zqab BK171.out 4).trans rfl
      have hcz10_5 : wc.cell? ⟨gb171, 5, none⟩ = some (.int .u8 a0_5) := (zqab BK171.out 5).trans rfl
      have hcz10_6 : wc.cell? ⟨gb171, 6, none⟩ = some (.int .u8 a0_6) := (zqab BK171.out 6).trans rfl
      have hcz10_7 : wc.cell? ⟨gb171, 7, none⟩ = some (.int .u8 a0_7) := (zqab BK171.out 7).trans rfl
      have hcz10_8 : wc.cell? ⟨gb171, 8, none⟩ = some (.int .u8 a0_8) := (zqab BK171.out 8).trans rfl
      have hcz10_9 : wc.cell? ⟨gb171, 9, none⟩ = some (.int .u8 a0_9) := (zqab BK171.out 9).trans rfl
      have hcz10_10 : wc.cell? ⟨gb171, 10, none⟩ = some (.int .u8 a0_10) := (zqab BK171.out 10).trans rfl
      have hcz10_11 : wc.cell? ⟨gb171, 11, none⟩ = some (.int .u8 a0_11) := (zqab BK171.out 11).trans rfl
      have hfz10_0 := zqaa BK171.out 0
      have hfz10_1 := zqaa BK171.out 1
      have hfz10_2 := zqaa BK171.out 2
      have hfz10_3 := zqaa BK171.out 3
      have hfz10_4 := zqaa BK171.out 4
      have hfz10_5 := zqaa BK171.out 5
      have hfz10_6 := zqaa BK171.out 6
      have hfz10_7 := zqaa BK171.out 7
      have hfz10_8 := zqaa BK171.out 8
      have hfz10_9 := zqaa BK171.out 9
      have hfz10_10 := zqaa BK171.out 10
      have hfz10_11 := zqaa BK171.out 11
      go_wp2
      go_meet
      case rel => exact ⟨_, (true), (by first | rfl | (simp; done) | (simp [*]; done)), H', ⟨by have := HJ1.out; first | omega | exact Nat.le_refl _⟩, ⟨by (with_reducible repeat (first | refine zqag ?_ _ | refine zqai ?_ | refine zqaf ?_ _)); exact BK171.out⟩, ⟨by repeat (with_reducible first | exact HB.out | apply zqad | apply zqac | apply zqae | refine zqah ?_ GE171.out)⟩⟩
     ·
      rw [if_neg c9] at H
      have c9b0 : decide (x3_1 < a0_0) = false := decide_eq_false c9
      clear c9
      by_cases c11 : a0_3 < 0
      ·
       rw [if_pos c11] at H
       have c11b0 : decide (a0_3 < 0) = true := decide_eq_true c11
       clear c11
       have H' := Aside0.mk H
       clear H
       have hcz12_0 : wc.cell? ⟨gb171, 0, none⟩ = some (.int .i64 a0_0) := (zqab BK171.out 0).trans rfl
       have hcz12_1 : wc.cell? ⟨gb171, 1, none⟩ = some (.bool a0_1) := (zqab BK171.out 1).trans rfl
       have hcz12_2 : wc.cell? ⟨gb171, 2, none⟩ = some (.bool a0_2) := (zqab BK171.out 2).trans rfl
       have hcz12_3 : wc.cell? ⟨gb171, 3, none⟩ = some (.int .i64 a0_3) := (zqab BK171.out 3).trans rfl
       have hcz12_4 : wc.cell? ⟨gb171, 4, none⟩ = some (.int .u8 a0_4) := (zqab BK171.out 4).trans rfl
       have hcz12_5 : wc.cell? ⟨gb171, 5, none⟩ = some (.int .u8 a0_5) := (zqab BK171.out 5).trans rfl
       have hcz12_6 : wc.cell? ⟨gb171, 6, none⟩ = some (.int .u8 a0_6) := (zqab BK171.out 6).trans rfl
       have hcz12_7 : wc.cell? ⟨gb171, 7, none⟩ = some (.int .u8 a0_7) := (zqab BK171.out 7).trans rfl
       have hcz12_8 : wc.cell? ⟨gb171, 8, none⟩ = some (.int .u8 a0_8) := (zqab BK171.out 8).trans rfl
       have hcz12_9 : wc.cell? ⟨gb171, 9, none⟩ = some (.int .u8 a0_9) := (zqab BK171.out 9).trans rfl
       have hcz12_10 : wc.cell? ⟨gb171, 10, none⟩ = some (.int .u8 a0_10) := (zqab BK171.out 10).trans rfl
       have hcz12_11 : wc.cell? ⟨gb171, 11, none⟩ = some (.int .u8 a0_11) := (zqab BK171.out 11).trans rfl
       have hfz12_0 := zqaa BK171.out 0
       have hfz12_1 := zqaa BK171.out 1
       have hfz12_2 := zqaa BK171.out 2
       have hfz12_3 := zqaa BK171.out 3
       have hfz12_4 := zqaa BK171.out 4
       have hfz12_5 := zqaa BK171.out 5
       have hfz12_6 := zqaa BK171.out 6
       have hfz12_7 := zqaa BK171.out 7
       have hfz12_8 := zqaa BK171.out 8
       have hfz12_9 := zqaa BK171.out 9
       have hfz12_10 := zqaa BK171.out 10
       have hfz12_11 := zqaa BK171.out 11
       go_wp2
       go_meet
       case rel => exact ⟨_, (true), (by first | rfl | (simp; done) | (simp [*]; done)), H', ⟨by have := HJ1.out; first | omega | exact Nat.le_refl _⟩, ⟨by (with_reducible repeat (first | refine zqag ?_ _ | refine zqai ?_ | refine zqaf ?_ _)); exact BK171.out⟩, ⟨by repeat (with_reducible first | exact HB.out | apply zqad | apply zqac | apply zqae | refine zqah ?_ GE171.out)⟩⟩
      ·
       rw [if_neg c11] at H
       have c11b0 : decide (a0_3 < 0) = false := decide_eq_false c11
       clear c11
       have H' := Aside0.mk H
       clear H
       have hcz13_0 : wc.cell? ⟨gb171, 0, none⟩ = some (.int .i64 a0_0) := (zqab BK171.out 0).trans rfl
       have hcz13_1 : wc.cell? ⟨gb171, 1, none⟩ = some (.bool a0_1) := (zqab BK171.out 1).trans rfl
       have hcz13_2 : wc.cell? ⟨gb171, 2, none⟩ = some (.bool a0_2) := (zqab BK171.out 2).trans rfl
       have hcz13_3 : wc.cell? ⟨gb171, 3, none⟩ = some (.int .i64 a0_3) := (zqab BK171.out 3).trans rfl
       have hcz13_4 : wc.cell? ⟨gb171, 4, none⟩ = some (.int .u8 a0_4) := (zqab BK171.out 4).trans rfl
       have hcz13_5 : wc.cell? ⟨gb171, 5, none⟩ = some (.int .u8 a0_5) := (zqab BK171.out 5).trans rfl
       have hcz13_6 : wc.cell? ⟨gb171, 6, none⟩ = some (.int .u8 a0_6) := (zqab BK171.out 6).trans rfl
       have hcz13_7 : wc.cell? ⟨gb171, 7, none⟩ = some (.int .u8 a0_7) := (zqab BK171.out 7).trans rfl
       have hcz13_8 : wc.cell? ⟨gb171, 8, none⟩ = some (.int .u8 a0_8) := (zqab BK171.out 8).trans rfl
       have hcz13_9 : wc.cell? ⟨gb171, 9, none⟩ = some (.int .u8 a0_9) := (zqab BK171.out 9).trans rfl
       have hcz13_10 : wc.cell? ⟨gb171, 10, none⟩ = some (.int .u8 a0_10) := (zqab BK171.out 10).trans rfl
       have hcz13_11 : wc.cell? ⟨gb171, 11, none⟩ = some (.int .u8 a0_11) := (zqab BK171.out 11).trans rfl
       have hfz13_0 := zqaa BK171.out 0
       have hfz13_1 := zqaa BK171.out 1
       have hfz13_2 := zqaa BK171.out 2
       have hfz13_3 := zqaa BK171.out 3
       have hfz13_4 := zqaa BK171.out 4
       have hfz13_5 := zqaa BK171.out 5
       have hfz13_6 := zqaa BK171.out 6
       have hfz13_7 := zqaa BK171.out 7
       have hfz13_8 := zqaa BK171.out 8
       have hfz13_9 := zqaa BK171.out 9
       have hfz13_10 := zqaa BK171.out 10
       have hfz13_11 := zqaa BK171.out 11
       go_wp2
       go_meet
       case rel => exact ⟨_, (decide (a0_3 > 8)), (by first | rfl | (simp; done) | (simp [*]; done)), H', ⟨by have := HJ1.out; first | omega | exact Nat.le_refl _⟩, ⟨by (with_reducible repeat (first | refine zqag ?_ _ | refine zqai ?_ | refine zqaf ?_ _)); exact BK171.out⟩, ⟨by repeat (with_reducible first | exact HB.out | apply zqad | apply zqac | apply zqae | refine zqah ?_ GE171.out)⟩⟩
   case rest =>
    clear HC6
    try clear c1
    try clear p2
    try clear c5
    try clear c7
    try clear c7b0
    try clear c9
    try clear c9b0
    try clear c11
    try clear c11b0
    try clear hcz10_0
    try clear hcz10_1
    try clear hcz10_10
    try clear hcz10_11
    try clear hcz10_2
    try clear hcz10_3
    try clear hcz10_4
    try clear hcz10_5
    try clear hcz10_6
    try clear hcz10_7
    try clear hcz10_8
    try clear hcz10_9
    try clear hcz12_0
    try clear hcz12_1
    try clear hcz12_10
    try clear hcz12_11
    try clear hcz12_2
    try clear hcz12_3
    try clear hcz12_4
    try clear hcz12_5
    try clear hcz12_6
    try clear hcz12_7
    try clear hcz12_8
    try clear hcz12_9
    try clear hcz13_0
    try clear hcz13_1
    try clear hcz13_10
    try clear hcz13_11
    try clear hcz13_2
    try clear hcz13_3
    try clear hcz13_4
    try clear hcz13_5
    try clear hcz13_6
    try clear hcz13_7
    try clear hcz13_8
    try clear hcz13_9
    try clear hcz4_0
    try clear hcz4_1
    try clear hcz4_10
    try clear hcz4_11
    try clear hcz4_2
    try clear hcz4_3
    try clear hcz4_4
    try clear hcz4_5
    try clear hcz4_6
    try clear hcz4_7
    try clear hcz4_8
    try clear hcz4_9
    try clear hcz8_0
    try clear hcz8_1
    try clear hcz8_10
    try clear hcz8_11
    try clear hcz8_2
    try clear hcz8_3
    try clear hcz8_4
    try clear hcz8_5
    try clear hcz8_6
    try clear hcz8_7
    try clear hcz8_8
    try clear hcz8_9
    try clear hfz10_0
    try clear hfz10_1
    try clear hfz10_10
    try clear hfz10_11
    try clear hfz10_2
    try clear hfz10_3
    try clear hfz10_4
    try clear hfz10_5
    try clear hfz10_6
    try clear hfz10_7
    try clear hfz10_8
    try clear hfz10_9
    try clear hfz12_0
    try clear hfz12_1
    try clear hfz12_10
    try clear hfz12_11
    try clear hfz12_2
    try clear hfz12_3
    try clear hfz12_4
    try clear hfz12_5
    try clear hfz12_6
    try clear hfz12_7
    try clear hfz12_8
    try clear hfz12_9
    try clear hfz13_0
    try clear hfz13_1
    try clear hfz13_10
    try clear hfz13_11
    try clear hfz13_2
    try clear hfz13_3
    try clear hfz13_4
    try clear hfz13_5
    try clear hfz13_6
    try clear hfz13_7
    try clear hfz13_8
    try clear hfz13_9
    try clear hfz4_0
    try clear hfz4_1
    try clear hfz4_10
    try clear hfz4_11
    try clear hfz4_2
    try clear hfz4_3
    try clear hfz4_4
    try clear hfz4_5
    try clear hfz4_6
    try clear hfz4_7
    try clear hfz4_8
    try clear hfz4_9
    try clear hfz8_0
    try clear hfz8_1
    try clear hfz8_10
    try clear hfz8_11
    try clear hfz8_2
    try clear hfz8_3
    try clear hfz8_4
    try clear hfz8_5
    try clear hfz8_6
    try clear hfz8_7
    try clear hfz8_8
    try clear hfz8_9
    try clear p2
    obtain ⟨kq, x25_5, rfl, HA, HJ5, BK171, HB⟩ := hcut
    cases kq with
    | zero => exact absurd HA.out (by simp [magnetoref03_Check.j1])
    | succ kj5 =>
     have H := HA.out
     clear HA
     simp only [magnetoref03_Check.j1] at H
     by_cases c14 : x25_5 = true
     ·
      subst c14
      have H1 : (some 14) = some r := by rw [if_pos rfl] at H; exact H
      clear H
      have H := H1
      clear H1
      obtain rfl := Option.some.inj H
      go_wp2
      go_ret
      exact ⟨by first | rfl | (simp [errW_none, errW_some] <;> rfl) | (simp [*, errW_none, errW_some] <;> rfl), by repeat (with_reducible first | exact HB.out | apply zqad | apply zqac | apply zqae | refine zqah ?_ GE171.out)⟩
     ·
      replace c14 := Bool.eq_false_iff.mpr c14
      subst c14
      have H1 : (magnetoref03_Check.l0 kj5 0 a0_0 a0_1 a0_2 a0_3 a0_4 a0_5 a0_6 a0_7 a0_8 a0_9 a0_10 a0_11) = some r := by rw [if_neg (show ¬ (false = true) by decide)] at H; exact H
      clear H
      have H := H1
      clear H1
      have H' := Aside0.mk H
      clear H
      go_wp2
      go_loopg [4] kj5 (fun kq v4 w' => ∃ (x4_3 : Int), v4 = .int .i64 x4_3 ∧ Aside0 (magnetoref03_Check.l0 kq x4_3 a0_0 a0_1 a0_2 a0_3 a0_4 a0_5 a0_6 a0_7 a0_8 a0_9 a0_10 a0_11 = some r) ∧ Aside0 (kq ≤ kj5) ∧ Aside0 (w'.heap[gb171]? = some (.cells #[.int .i64 a0_0, .bool a0_1, .bool a0_2, .int .i64 a0_3, .int .u8 a0_4, .int .u8 a0_5, .int .u8 a0_6, .int .u8 a0_7, .int .u8 a0_8, .int .u8 a0_9, .int .u8 a0_10, .int .u8 a0_11] 24 (0, 0))) ∧ Aside0 (Below w.heap.size w w'))
      case atStart => exact ⟨(0), (by first | rfl | (simp; done) | (simp [*]; done)), H', ⟨Nat.le_refl _⟩, ⟨by (with_reducible repeat (first | refine zqag ?_ _ | refine zqai ?_ | refine zqaf ?_ _)); exact BK171.out⟩, ⟨by repeat (with_reducible first | exact HB.out | apply zqad | apply zqac | apply zqae | refine zqah ?_ GE171.out)⟩⟩
      case round =>
       clear H'
       try clear c1
       try clear p2
       try clear c5
       try clear c7
       try clear c7b0
       try clear c9
       try clear c9b0
       try clear c11
       try clear c11b0
       try clear c14
       try clear hcz10_0
       try clear hcz10_1
       try clear hcz10_10
       try clear hcz10_11
       try clear hcz10_2
       try clear hcz10_3
       try clear hcz10_4
       try clear hcz10_5
       try clear hcz10_6
       try clear hcz10_7
       try clear hcz10_8
       try clear hcz10_9
       try clear hcz12_0
       try clear hcz12_1
       try clear hcz12_10
       try clear hcz12_11
       try clear hcz12_2
       try clear hcz12_3
       try clear hcz12_4
       try clear hcz12_5
       try clear hcz12_6
       try clear hcz12_7
       try clear hcz12_8
       try clear hcz12_9
       try clear hcz13_0
       try clear hcz13_1
       try clear hcz13_10
       try clear hcz13_11
       try clear hcz13_2
       try clear hcz13_3
       try clear hcz13_4
       try clear hcz13_5
       try clear hcz13_6
       try clear hcz13_7
       try clear hcz13_8
       try clear hcz13_9
       try clear hcz4_0
       try clear hcz4_1
       try clear hcz4_10
       try clear hcz4_11
       try clear hcz4_2
       try clear hcz4_3
       try clear hcz4_4
       try clear hcz4_5
       try clear hcz4_6
       try clear hcz4_7
       try clear hcz4_8
       try clear hcz4_9
       try clear hcz8_0
       try clear hcz8_1
       try clear hcz8_10
       try clear hcz8_11
       try clear hcz8_2
       try clear hcz8_3
       try clear hcz8_4
       try clear hcz8_5
       try clear hcz8_6
       try clear hcz8_7
       try clear hcz8_8
       try clear hcz8_9
       try clear hfz10_0
       try clear hfz10_1
       try clear hfz10_10
       try clear hfz10_11
       try clear hfz10_2
       try clear hfz10_3
       try clear hfz10_4
       try clear hfz10_5
       try clear hfz10_6
       try clear hfz10_7
       try clear hfz10_8
       try clear hfz10_9
       try clear hfz12_0
       try clear hfz12_1
       try clear hfz12_10
       try clear hfz12_11
       try clear hfz12_2
       try clear hfz12_3
       try clear hfz12_4
       try clear hfz12_5
       try clear hfz12_6
       try clear hfz12_7
       try clear hfz12_8
       try clear hfz12_9
       try clear hfz13_0
       try clear hfz13_1
       try clear hfz13_10
       try clear hfz13_11
       try clear hfz13_2
       try clear hfz13_3
       try clear hfz13_4
       try clear hfz13_5
       try clear hfz13_6
       try clear hfz13_7
       try clear hfz13_8
       try clear hfz13_9
       try clear hfz4_0
       try clear hfz4_1
       try clear hfz4_10
       try clear hfz4_11
       try clear hfz4_2
       try clear hfz4_3
       try clear hfz4_4
       try clear hfz4_5
       try clear hfz4_6
       try clear hfz4_7
       try clear hfz4_8
       try clear hfz4_9
       try clear hfz8_0
       try clear hfz8_1
       try clear hfz8_10
       try clear hfz8_11
       try clear hfz8_2
       try clear hfz8_3
       try clear hfz8_4
       try clear hfz8_5
       try clear hfz8_6
       try clear hfz8_7
       try clear hfz8_8
       try clear hfz8_9
       try clear p2
       obtain ⟨x4_3, rfl, HA, HK3, BK171, HB⟩ := hrel
       cases gk with
       | zero => exact absurd HA.out (by simp [magnetoref03_Check.l0])
       | succ k3 =>
        have H := HA.out
        clear HA
        simp only [magnetoref03_Check.l0] at H
        by_cases c15 : x4_3 < 8
        ·
         rw [if_pos c15] at H
         have c15b0 : decide (x4_3 < 8) = true := decide_eq_true c15
         clear c15
         by_cases c16 : 0 ≤ x4_3
         ·
          rw [if_pos c16] at H
          have c16b0 : decide (0 ≤ x4_3) = true := decide_eq_true c16
          clear c16
          by_cases c17 : (rd ([a0_4, a0_5, a0_6, a0_7, a0_8, a0_9, a0_10, a0_11] : List Int) x4_3) = 0
          ·
           rw [if_pos c17] at H
           have c17b0 : ((rd ([a0_4, a0_5, a0_6, a0_7, a0_8, a0_9, a0_10, a0_11] : List Int) x4_3) == 0) = true := beq_iff_eq.mpr c17
           have c17b1 : ((rd ([a0_4, a0_5, a0_6, a0_7, a0_8, a0_9, a0_10, a0_11] : List Int) x4_3) != 0) = false := bne_eq_false_iff_eq.mpr c17
           clear c17
           have H' := Aside0.mk H
           clear H
           have hcz18_0 : wr.cell? ⟨gb171, 0, none⟩ = some (.int .i64 a0_0) := (zqab BK171.out 0).trans rfl
           have hcz18_1 : wr.cell? ⟨gb171, 1, none⟩ = some (.bool a0_1) := (zqab BK171.out 1).trans rfl
           have hcz18_2 : wr.cell? ⟨gb171, 2, none⟩ = some (.bool a0_2) := (zqab BK171.out 2).trans rfl
           have hcz18_3 : wr.cell? ⟨gb171, 3, none⟩ = some (.int .i64 a0_3) := (zqab BK171.out 3).trans rfl
           have hcz18_4 : wr.cell? ⟨gb171, 4, none⟩ = some (.int .u8 a0_4) := (zqab BK171.out 4).trans rfl
           have hcz18_5 : wr.cell? ⟨gb171, 5, none⟩ = some (.int .u8 a0_5) := (zqab BK171.out 5).trans rfl
           have hcz18_6 : wr.cell? ⟨gb171, 6, none⟩ = some (.int .u8 a0_6) := (zqab BK171.out 6).trans rfl
           have hcz18_7 : wr.cell? ⟨gb171, 7, none⟩ = some (.int .u8 a0_7) := (zqab BK171.out 7).trans rfl
           have hcz18_8 : wr.cell? ⟨gb171, 8, none⟩ = some (.int .u8 a0_8) := (zqab BK171.out 8).trans rfl
           have hcz18_9 : wr.cell? ⟨gb171, 9, none⟩ = some (.int .u8 a0_9) := (zqab BK171.out 9).trans rfl
           have hcz18_10 : wr.cell? ⟨gb171, 10, none⟩ = some (.int .u8 a0_10) := (zqab BK171.out 10).trans rfl
           have hcz18_11 : wr.cell? ⟨gb171, 11, none⟩ = some (.int .u8 a0_11) := (zqab BK171.out 11).trans rfl
           have hfz18_0 := zqaa BK171.out 0
           have hfz18_1 := zqaa BK171.out 1
           have hfz18_2 := zqaa BK171.out 2
           have hfz18_3 := zqaa BK171.out 3
           have hfz18_4 := zqaa BK171.out 4
           have hfz18_5 := zqaa BK171.out 5
           have hfz18_6 := zqaa BK171.out 6
           have hfz18_7 := zqaa BK171.out 7
           have hfz18_8 := zqaa BK171.out 8
           have hfz18_9 := zqaa BK171.out 9
           have hfz18_10 := zqaa BK171.out 10
           have hfz18_11 := zqaa BK171.out 11
           have hcy19 : wr.cell? ⟨gb171, 4 + (x4_3 : Int).toNat, none⟩ = some (.int .u8 (rd ([a0_4, a0_5, a0_6, a0_7, a0_8, a0_9, a0_10, a0_11] : List Int) x4_3)) := arr_int .u8 4 ([a0_4, a0_5, a0_6, a0_7, a0_8, a0_9, a0_10, a0_11] : List Int) BK171.out rfl (x4_3 : Int) (of_decide_eq_true (by first | (with_reducible assumption) | assumption)) (of_decide_eq_true (by first | (with_reducible assumption) | assumption))
           have hfy19 := zqaa BK171.out (4 + (x4_3 : Int).toNat)
           have hpy19 : (0 ≤ (x4_3 : Int)) = True := eq_true (of_decide_eq_true (by first | (with_reducible assumption) | assumption))
           have hqy19 : ((x4_3 : Int) < 8) = True := eq_true (of_decide_eq_true (by first | (with_reducible assumption) | assumption))
           go_wp2
           go_roundg k3
           case measure => have := HJ1.out; have := HJ5.out; have := HK3.out; omega
           case rel => exact ⟨(wrap64 (x4_3 + 1)), (by first | rfl | (simp; done) | (simp [*]; done)), H', ⟨by have := HJ1.out; have := HJ5.out; have := HK3.out; omega⟩, ⟨by (with_reducible repeat (first | refine zqag ?_ _ | refine zqai ?_ | refine zqaf ?_ _)); exact BK171.out⟩, ⟨by repeat (with_reducible first | exact HB.out | apply zqad | apply zqac | apply zqae | refine zqah ?_ GE171.out)⟩⟩
          ·
           rw [if_neg c17] at H
           have c17b0 : ((rd ([a0_4, a0_5, a0_6, a0_7, a0_8, a0_9, a0_10, a0_11] : List Int) x4_3) == 0) = false := beq_eq_false_iff_ne.mpr c17
           have c17b1 : ((rd ([a0_4, a0_5, a0_6, a0_7, a0_8, a0_9, a0_10, a0_11] : List Int) x4_3) != 0) = true := bne_iff_ne.mpr c17
           by_cases c20 : a0_2 = true
           ·
            subst c20
            have H1 : (some 14) = some r := by rw [if_pos rfl] at H; exact H
            clear H
            have H := H1
            clear H1
            obtain rfl := Option.some.inj H
            have hcz21_0 : wr.cell? ⟨gb171, 0, none⟩ = some (.int .i64 a0_0) := (zqab BK171.out 0).trans rfl
            have hcz21_1 : wr.cell? ⟨gb171, 1, none⟩ = some (.bool a0_1) := (zqab BK171.out 1).trans rfl
            have hcz21_2 : wr.cell? ⟨gb171, 2, none⟩ = some (.bool true) := (zqab BK171.out 2).trans rfl
            have hcz21_3 : wr.cell? ⟨gb171, 3, none⟩ = some (.int .i64 a0_3) := (zqab BK171.out 3).trans rfl
            have hcz21_4 : wr.cell? ⟨gb171, 4, none⟩ = some (.int .u8 a0_4) := (zqab BK171.out 4).trans rfl
            have hcz21_5 : wr.cell? ⟨gb171, 5, none⟩ = some (.int .u8 a0_5) := (zqab BK171.out 5).trans rfl
            have hcz21_6 : wr.cell? ⟨gb171, 6, none⟩ = some (.int .u8 a0_6) := (zqab BK171.out 6).trans rfl
            have hcz21_7 : wr.cell? ⟨gb171, 7, none⟩ = some (.int .u8 a0_7) := (zqab BK171.out 7).trans rfl
            have hcz21_8 : wr.cell? ⟨gb171, 8, none⟩ = some (.int .u8 a0_8) := (zqab BK171.out 8).trans rfl
            have hcz21_9 : wr.cell? ⟨gb171, 9, none⟩ = some (.int .u8 a0_9) := (zqab BK171.out 9).trans rfl
            have hcz21_10 : wr.cell? ⟨gb171, 10, none⟩ = some (.int .u8 a0_10) := (zqab BK171.out 10).trans rfl
            have hcz21_11 : wr.cell? ⟨gb171, 11, none⟩ = some (.int .u8 a0_11) := (zqab BK171.out 11).trans rfl
            have hfz21_0 := zqaa BK171.out 0
            have hfz21_1 := zqaa BK171.out 1
            have hfz21_2 := zqaa BK171.out 2
            have hfz21_3 := zqaa BK171.out 3
            have hfz21_4 := zqaa BK171.out 4
            have hfz21_5 := zqaa BK171.out 5
            have hfz21_6 := zqaa BK171.out 6
            have hfz21_7 := zqaa BK171.out 7
            have hfz21_8 := zqaa BK171.out 8
            have hfz21_9 := zqaa BK171.out 9
            have hfz21_10 := zqaa BK171.out 10
            have hfz21_11 := zqaa BK171.out 11
            have hcy22 : wr.cell? ⟨gb171, 4 + (x4_3 : Int).toNat, none⟩ = some (.int .u8 (rd ([a0_4, a0_5, a0_6, a0_7, a0_8, a0_9, a0_10, a0_11] : List Int) x4_3)) := arr_int .u8 4 ([a0_4, a0_5, a0_6, a0_7, a0_8, a0_9, a0_10, a0_11] : List Int) BK171.out rfl (x4_3 : Int) (of_decide_eq_true (by first | (with_reducible assumption) | assumption)) (of_decide_eq_true (by first | (with_reducible assumption) | assumption))
            have hfy22 := zqaa BK171.out (4 + (x4_3 : Int).toNat)
            have hpy22 : (0 ≤ (x4_3 : Int)) = True := eq_true (of_decide_eq_true (by first | (with_reducible assumption) | assumption))
            have hqy22 : ((x4_3 : Int) < 8) = True := eq_true (of_decide_eq_true (by first | (with_reducible assumption) | assumption))
            go_wp2
            go_ret
            exact ⟨by first | rfl | (simp [errW_none, errW_some] <;> rfl) | (simp [*, errW_none, errW_some] <;> rfl), by repeat (with_reducible first | exact HB.out | apply zqad | apply zqac | apply zqae | refine zqah ?_ GE171.out)⟩
           ·
            replace c20 := Bool.eq_false_iff.mpr c20
            subst c20
            have H1 : (if x4_3 ≥ a0_3 then (some 14) else (magnetoref03_Check.l0 k3 (wrap64 (x4_3 + 1)) a0_0 a0_1 false a0_3 a0_4 a0_5 a0_6 a0_7 a0_8 a0_9 a0_10 a0_11)) = some r := by rw [if_neg (show ¬ (false = true) by decide)] at H; exact H
            clear H
            have H := H1
            clear H1
            by_cases c23 : x4_3 ≥ a0_3
            ·
             rw [if_pos c23] at H
             have c23b0 : decide (a0_3 ≤ x4_3) = true := decide_eq_true c23
             clear c23
             obtain rfl := Option.some.inj H
             have hcz24_0 : wr.cell? ⟨gb171, 0, none⟩ = some (.int .i64 a0_0) := (zqab BK171.out 0).trans rfl
             have hcz24_1 : wr.cell? ⟨gb171, 1, none⟩ = some (.bool a0_1) := (zqab BK171.out 1).trans rfl
             have hcz24_2 : wr.cell? ⟨gb171, 2, none⟩ = some (.bool false) := (zqab BK171.out 2).trans rfl
             have hcz24_3 : wr.cell? ⟨gb171, 3, none⟩ = some (.int .i64 a0_3) := (zqab BK171.out 3).trans rfl
             have hcz24_4 : wr.cell? ⟨gb171, 4, none⟩ = some (.int .u8 a0_4) := (zqab BK171.out 4).trans rfl
             have hcz24_5 : wr.cell? ⟨gb171, 5, none⟩ = some (.int .u8 a0_5) := (zqab BK171.out 5).trans rfl
             have hcz24_6 : wr.cell? ⟨gb171, 6, none⟩ = some (.int .u8 a0_6) := (zqab BK171.out 6).trans rfl
             have hcz24_7 : wr.cell? ⟨gb171, 7, none⟩ = some (.int .u8 a0_7) := (zqab BK171.out 7).trans rfl
             have hcz24_8 : wr.cell? ⟨gb171, 8, none⟩ = some (.int .u8 a0_8) := (zqab BK171.out 8).trans rfl
             have hcz24_9 : wr.cell? ⟨gb171, 9, none⟩ = some (.int .u8 a0_9) := (zqab BK171.out 9).trans rfl
             have hcz24_10 : wr.cell? ⟨gb171, 10, none⟩ = some (.int .u8 a0_10) := (zqab BK171.out 10).trans rfl
             have hcz24_11 : wr.cell? ⟨gb171, 11, none⟩ = some (.int .u8 a0_11) := (zqab BK171.out 11).trans rfl
             have hfz24_0 := zqaa BK171.out 0
             have hfz24_1 := zqaa BK171.out 1
             have hfz24_2 := zqaa BK171.out 2
             have hfz24_3 := zqaa BK171.out 3
             have hfz24_4 := zqaa BK171.out 4
             have hfz24_5 := zqaa BK171.out 5
             have hfz24_6 := zqaa BK171.out 6
             have hfz24_7 := zqaa BK171.out 7
             have hfz24_8 := zqaa BK171.out 8
             have hfz24_9 := zqaa BK171.out 9
             have hfz24_10 := zqaa BK171.out 10
             have hfz24_11 := zqaa BK171.out 11
             have hcy25 : wr.cell? ⟨gb171, 4 + (x4_3 : Int).toNat, none⟩ = some (.int .u8 (rd ([a0_4, a0_5, a0_6, a0_7, a0_8, a0_9, a0_10, a0_11] : List Int) x4_3)) := arr_int .u8 4 ([a0_4, a0_5, a0_6, a0_7, a0_8, a0_9, a0_10, a0_11] : List Int) BK171.out rfl (x4_3 : Int) (of_decide_eq_true (by first | (with_reducible assumption) | assumption)) (of_decide_eq_true (by first | (with_reducible assumption) | assumption))
             have hfy25 := zqaa BK171.out (4 + (x4_3 : Int).toNat)
             have hpy25 : (0 ≤ (x4_3 : Int)) = True := eq_true (of_decide_eq_true (by first | (with_reducible assumption) | assumption))
             have hqy25 : ((x4_3 : Int) < 8) = True := eq_true (of_decide_eq_true (by first | (with_reducible assumption) | assumption))
             go_wp2
             go_ret
             exact ⟨by first | rfl | (simp [errW_none, errW_some] <;> rfl) | (simp [*, errW_none, errW_some] <;> rfl), by repeat (with_reducible first | exact HB.out | apply zqad | apply zqac | apply zqae | refine zqah ?_ GE171.out)⟩
            ·
             rw [if_neg c23] at H
             have c23b0 : decide (a0_3 ≤ x4_3) = false := decide_eq_false c23
             clear c23
             have H' := Aside0.mk H
             clear H
             have hcz26_0 : wr.cell? ⟨gb171, 0, none⟩ = some (.int .i64 a0_0) := (zqab BK171.out 0).trans rfl
             have hcz26_1 : wr.cell? ⟨gb171, 1, none⟩ = some (.bool a0_1) := (zqab BK171.out 1).trans rfl
             have hcz26_2 : wr.cell? ⟨gb171, 2, none⟩ = some (.bool false) := (zqab BK171.out 2).trans rfl
             have hcz26_3 : wr.cell? ⟨gb171, 3, none⟩ = some (.int .i64 a0_3) := (zqab BK171.out 3).trans rfl
             have hcz26_4 : wr.cell? ⟨gb171, 4, none⟩ = some (.int .u8 a0_4) := (zqab BK171.out 4).trans rfl
             have hcz26_5 : wr.cell? ⟨gb171, 5, none⟩ = some (.int .u8 a0_5) := (zqab BK171.out 5).trans rfl
             have hcz26_6 : wr.cell? ⟨gb171, 6, none⟩ = some (.int .u8 a0_6) := (zqab BK171.out 6).trans rfl
             have hcz26_7 : wr.cell? ⟨gb171, 7, none⟩ = some (.int .u8 a0_7) := (zqab BK171.out 7).trans rfl
             have hcz26_8 : wr.cell? ⟨gb171, 8, none⟩ = some (.int .u8 a0_8) := (zqab BK171.out 8).trans rfl
             have hcz26_9 : wr.cell? ⟨gb171, 9, none⟩ = some (.int .u8 a0_9) := (zqab BK171.out 9).trans rfl
             have hcz26_10 : wr.cell? ⟨gb171, 10, none⟩ = some (.int .u8 a0_10) := (zqab BK171.out 10).trans rfl
             have hcz26_11 : wr.cell? ⟨gb171, 11, none⟩ = some (.int .u8 a0_11) := (zqab BK171.out 11).trans rfl
             have hfz26_0 := zqaa BK171.out 0
             have hfz26_1 := zqaa BK171.out 1
             have hfz26_2 := zqaa BK171.out 2
             have hfz26_3 := zqaa BK171.out 3
             have hfz26_4 := zqaa BK171.out 4
             have hfz26_5 := zqaa BK171.out 5
             have hfz26_6 := zqaa BK171.out 6
             have hfz26_7 := zqaa BK171.out 7
             have hfz26_8 := zqaa BK171.out 8
             have hfz26_9 := zqaa BK171.out 9
             have hfz26_10 := zqaa BK171.out 10
             have hfz26_11 := zqaa BK171.out 11
             have hcy27 : wr.cell? ⟨gb171, 4 + (x4_3 : Int).toNat, none⟩ = some (.int .u8 (rd ([a0_4, a0_5, a0_6, a0_7, a0_8, a0_9, a0_10, a0_11] : List Int) x4_3)) := arr_int .u8 4 ([a0_4, a0_5, a0_6, a0_7, a0_8, a0_9, a0_10, a0_11] : List Int) BK171.out rfl (x4_3 : Int) (of_decide_eq_true (by first | (with_reducible assumption) | assumption)) (of_decide_eq_true (by first | (with_reducible assumption) | assumption))
             have hfy27 := zqaa BK171.out (4 + (x4_3 : Int).toNat)
             have hpy27 : (0 ≤ (x4_3 : Int)) = True := eq_true (of_decide_eq_true (by first | (with_reducible assumption) | assumption))
             have hqy27 : ((x4_3 : Int) < 8) = True := eq_true (of_decide_eq_true (by first | (with_reducible assumption) | assumption))
             go_wp2
             go_roundg k3
             case measure => have := HJ1.out; have := HJ5.out; have := HK3.out; omega
             case rel => exact ⟨(wrap64 (x4_3 + 1)), (by first | rfl | (simp; done) | (simp [*]; done)), H', ⟨by have := HJ1.out; have := HJ5.out; have := HK3.out; omega⟩, ⟨by (with_reducible repeat (first | refine zqag ?_ _ | refine zqai ?_ | refine zqaf ?_ _)); exact BK171.out⟩, ⟨by repeat (with_reducible first | exact HB.out | apply zqad | apply zqac | apply zqae | refine zqah ?_ GE171.out)⟩⟩
         ·
          rw [if_neg c16] at H
          exact absurd H (by simp)
        ·
         rw [if_neg c15] at H
         have c15b0 : decide (x4_3 < 8) = false := decide_eq_false c15
         clear c15
         obtain rfl := Option.some.inj H
         go_wp2
         go_ret
         exact ⟨by first | rfl | (simp [errW_none, errW_some] <;> rfl) | (simp [*, errW_none, errW_some] <;> rfl), by repeat (with_reducible first | exact HB.out | apply zqad | apply zqac | apply zqae | refine zqah ?_ GE171.out)⟩

end Go.Proofs.Ytakemodmdhglnaa.PA
