/- Functions of the program, in plain Lean, and their walks (printed; half the indent). Conditions: none. -/
-- PRINTED by print.py (a twelfth state) out of the translation. Not trusted: Lean checks it.
import Derived.Test.YtakemodmdhglnaaPAx0
import Derived.Test.YtakemodmdhglnaaPAx13
import Derived.Test.YtakemodmdhglnaaPAx14
import Derived.Test.YtakemodmdhglnaaPAx17
import Derived.Test.YtakemodmdhglnaaPAx20
import Derived.Test.YtakemodmdhglnaaPAx23
namespace Go.Proofs.Ytakemodmdhglnaa.PA
open Go.RowKit Go.Proofs.YtakemodmdhglnaaW.PrintWords Go.Proofs.YtakemodmdhglnaaW.PrintLast Go.Proofs.YtakemodmdhglnaaW.PrintMore
attribute [local go_sem] max2_int min2_int max_two min_two max_three min_three max_four min_four   -- for this text's walks alone
set_option linter.unusedVariables false
set_option linter.unusedSimpArgs false

/-! ### magnetolaw04_FieldGoes: function 5 -/
mutual
def magnetolaw04_FieldGoes.j0 : Nat → List Int → List Int → Int → Bool → Bool → Int → Int → Int → Int → Int → Int → Int → Int → Int → Option (Bool)
 | 0, _, _, _, _, _, _, _, _, _, _, _, _, _, _ => none
 | k + 1, x3, x5, x430000, x430001, x430002, x430003, x430004, x430005, x430006, x430007, x430008, x430009, x430010, x430011 => if x430002 = true then (if 3 < (x5.length : Int) then (magnetolaw04_FieldGoes.j1 k x3 (x5.set (3 : Int).toNat 0)) else (none)) else (magnetolaw04_FieldGoes.j1 k x3 x5)
def magnetolaw04_FieldGoes.j1 : Nat → List Int → List Int → Option (Bool)
 | 0, _, _ => none
 | k + 1, x3, x5 => magnetolaw04_FieldGoes.l0 k x3 x5 (List.replicate 9 0) 0 0
def magnetolaw04_FieldGoes.l0 : Nat → List Int → List Int → List Int → Int → Int → Option (Bool)
 | 0, _, _, _, _, _ => none
 | k + 1, x3, x5, x6, x7, x8 => if x8 < (x3.length : Int) then (if 0 ≤ x8 then (if x8 ≤ (x3.length : Int) then ((field_Next.f (x3.take (x8 : Int).toNat)).bind fun bt448 => ((magnetolaw04_kind.f k bt448.1).bind fun t451 => (if bt448.2.2 = 0 then (if t451 < x7 then (none) else (if t451 > 8 then (none) else (if 0 ≤ t451 then (if t451 < (x6.length : Int) then (if bt448.2.1 = (rd x6 t451) then (magnetolaw04_FieldGoes.l0 k x3 x5 (x6.set (t451 : Int).toNat (wrap64 ((rd x6 t451) + 1))) t451 (wrap64 (x8 + 1))) else (none)) else (none)) else (none)))) else (none)))) else (none)) else (none)) else ((field_Next.f x3).bind fun bt455 => ((some (([] : List Int) : List Int)).bind fun y458 => (if y458.length + x3.length < 17592186044416 then ((some (y458 ++ x3 : List Int)).bind fun y461 => (if y461.length < 17592186044416 then ((field_Next.f (y461 ++ [1])).bind fun bt467 => ((magnetolaw04_ints.f k x6 x5).bind fun t470 => (if t470 = true then ((magnetolaw04_kind.f k bt455.1).bind fun t471 => (if t471 = 9 then (if bt455.2.1 = 0 then (if bt455.2.2 = 0 then (if bt467.2.2 = 12 then ((magnetolaw04_awake.f k).bind fun t472 => (some t472)) else (none)) else (none)) else (none)) else (none))) else (none)))) else (none))) else (none))))
end
def magnetolaw04_FieldGoes.f (k : Nat) (a0_0 : Int) (a0_1 : Bool) (a0_2 : Bool) (a0_3 : Int) (a0_4 : Int) (a0_5 : Int) (a0_6 : Int) (a0_7 : Int) (a0_8 : Int) (a0_9 : Int) (a0_10 : Int) (a0_11 : Int) : Option (Bool) := (field_All.f k a0_0 a0_1 a0_2 a0_3 a0_4 a0_5 a0_6 a0_7 a0_8 a0_9 a0_10 a0_11).bind fun bt430 => (if bt430.2 = 0 then ((some (([1, 13, 5, wrap64 (8 * a0_3), 15, 1, 1, 1, 7] : List Int) : List Int)).bind fun y435 => (if a0_1 = true then (if 1 < (y435.length : Int) then (if 2 < (y435.length : Int) then (magnetolaw04_FieldGoes.j0 k bt430.1 ((y435.set (1 : Int).toNat 32).set (2 : Int).toNat 6) a0_0 a0_1 a0_2 a0_3 a0_4 a0_5 a0_6 a0_7 a0_8 a0_9 a0_10 a0_11) else (none)) else (none)) else (magnetolaw04_FieldGoes.j0 k bt430.1 y435 a0_0 a0_1 a0_2 a0_3 a0_4 a0_5 a0_6 a0_7 a0_8 a0_9 a0_10 a0_11))) else (if (bt430.1.length : Int) = 0 then ((magnetolaw04_awake.f k).bind fun t434 => (some t434)) else (none)))
theorem magnetolaw04_FieldGoes.mono_l : ∀ k, (∀ y0 y1 y2 y3 y4 y5 y6 y7 y8 y9 y10 y11 y12 y13, LeO (magnetolaw04_FieldGoes.j0 k y0 y1 y2 y3 y4 y5 y6 y7 y8 y9 y10 y11 y12 y13) (magnetolaw04_FieldGoes.j0 (k + 1) y0 y1 y2 y3 y4 y5 y6 y7 y8 y9 y10 y11 y12 y13)) ∧ (∀ y0 y1, LeO (magnetolaw04_FieldGoes.j1 k y0 y1) (magnetolaw04_FieldGoes.j1 (k + 1) y0 y1)) ∧ (∀ y0 y1 y2 y3 y4, LeO (magnetolaw04_FieldGoes.l0 k y0 y1 y2 y3 y4) (magnetolaw04_FieldGoes.l0 (k + 1) y0 y1 y2 y3 y4))
 | 0 => ⟨fun _ _ _ _ _ _ _ _ _ _ _ _ _ _ r h => by simp [magnetolaw04_FieldGoes.j0] at h, fun _ _ r h => by simp [magnetolaw04_FieldGoes.j1] at h, fun _ _ _ _ _ r h => by simp [magnetolaw04_FieldGoes.l0] at h⟩
 | k + 1 => by
  obtain ⟨ih0, ih1, ih2⟩ := magnetolaw04_FieldGoes.mono_l k
  refine ⟨?_, ?_, ?_⟩
  ·
   intro y0 y1 y2 y3 y4 y5 y6 y7 y8 y9 y10 y11 y12 y13
   unfold magnetolaw04_FieldGoes.j0
   repeat' first
   | (with_reducible exact ih0 _ _ _ _ _ _ _ _ _ _ _ _ _ _)
   | (with_reducible exact ih1 _ _)
   | (with_reducible exact ih2 _ _ _ _ _)
   | (with_reducible exact field_All.mono _ _ _ _ _ _ _ _ _ _ _ _ _)
   | (with_reducible exact magnetolaw04_awake.mono _)
   | (with_reducible exact magnetolaw04_ints.mono _ _ _)
   | (with_reducible exact magnetolaw04_kind.mono _ _)
   | (with_reducible exact LeO.refl _)
   | (with_reducible exact LeO.none _)
   | (with_reducible refine LeO.ite ?_ ?_)
   | (with_reducible refine LeO.bind ?_ (fun _ => ?_))
   | exact ih0 _ _ _ _ _ _ _ _ _ _ _ _ _ _
   | exact ih1 _ _
   | exact ih2 _ _ _ _ _
   | exact field_All.mono _ _ _ _ _ _ _ _ _ _ _ _ _
   | exact magnetolaw04_awake.mono _
   | exact magnetolaw04_ints.mono _ _ _
   | exact magnetolaw04_kind.mono _ _
   | exact LeO.none _
   | refine LeO.ite ?_ ?_
   | refine LeO.bind ?_ (fun _ => ?_)
  ·
   intro y0 y1
   unfold magnetolaw04_FieldGoes.j1
   repeat' first
   | (with_reducible exact ih0 _ _ _ _ _ _ _ _ _ _ _ _ _ _)
   | (with_reducible exact ih1 _ _)
   | (with_reducible exact ih2 _ _ _ _ _)
   | (with_reducible exact field_All.mono _ _ _ _ _ _ _ _ _ _ _ _ _)
   | (with_reducible exact magnetolaw04_awake.mono _)
   | (with_reducible exact magnetolaw04_ints.mono _ _ _)
   | (with_reducible exact magnetolaw04_kind.mono _ _)
   | (with_reducible exact LeO.refl _)
   | (with_reducible exact LeO.none _)
   | (with_reducible refine LeO.ite ?_ ?_)
   | (with_reducible refine LeO.bind ?_ (fun _ => ?_))
   | exact ih0 _ _ _ _ _ _ _ _ _ _ _ _ _ _
   | exact ih1 _ _
   | exact ih2 _ _ _ _ _
   | exact field_All.mono _ _ _ _ _ _ _ _ _ _ _ _ _
   | exact magnetolaw04_awake.mono _
   | exact magnetolaw04_ints.mono _ _ _
   | exact magnetolaw04_kind.mono _ _
   | exact LeO.none _
   | refine LeO.ite ?_ ?_
   | refine LeO.bind ?_ (fun _ => ?_)
  ·
   intro y0 y1 y2 y3 y4
   unfold magnetolaw04_FieldGoes.l0
   repeat' first
   | (with_reducible exact ih0 _ _ _ _ _ _ _ _ _ _ _ _ _ _)
   | (with_reducible exact ih1 _ _)
   | (with_reducible exact ih2 _ _ _ _ _)
   | (with_reducible exact field_All.mono _ _ _ _ _ _ _ _ _ _ _ _ _)
   | (with_reducible exact magnetolaw04_awake.mono _)
   | (with_reducible exact magnetolaw04_ints.mono _ _ _)
   | (with_reducible exact magnetolaw04_kind.mono _ _)
   | (with_reducible exact LeO.refl _)
   | (with_reducible exact LeO.none _)
   | (with_reducible refine LeO.ite ?_ ?_)
   | (with_reducible refine LeO.bind ?_ (fun _ => ?_))
   | exact ih0 _ _ _ _ _ _ _ _ _ _ _ _ _ _
   | exact ih1 _ _
   | exact ih2 _ _ _ _ _
   | exact field_All.mono _ _ _ _ _ _ _ _ _ _ _ _ _
   | exact magnetolaw04_awake.mono _
   | exact magnetolaw04_ints.mono _ _ _
   | exact magnetolaw04_kind.mono _ _
   | exact LeO.none _
   | refine LeO.ite ?_ ?_
   | refine LeO.bind ?_ (fun _ => ?_)
theorem magnetolaw04_FieldGoes.mono : ∀ a0 a1 a2 a3 a4 a5 a6 a7 a8 a9 a10 a11 k, LeO (magnetolaw04_FieldGoes.f k a0 a1 a2 a3 a4 a5 a6 a7 a8 a9 a10 a11) (magnetolaw04_FieldGoes.f (k + 1) a0 a1 a2 a3 a4 a5 a6 a7 a8 a9 a10 a11) := by
 intro a0 a1 a2 a3 a4 a5 a6 a7 a8 a9 a10 a11 k
 obtain ⟨ih0, ih1, ih2⟩ := magnetolaw04_FieldGoes.mono_l k
 unfold magnetolaw04_FieldGoes.f
 repeat' first
   | (with_reducible exact ih0 _ _ _ _ _ _ _ _ _ _ _ _ _ _)
   | (with_reducible exact ih1 _ _)
   | (with_reducible exact ih2 _ _ _ _ _)
   | (with_reducible exact field_All.mono _ _ _ _ _ _ _ _ _ _ _ _ _)
   | (with_reducible exact magnetolaw04_awake.mono _)
   | (with_reducible exact magnetolaw04_ints.mono _ _ _)
   | (with_reducible exact magnetolaw04_kind.mono _ _)
   | (with_reducible exact LeO.refl _)
   | (with_reducible exact LeO.none _)
   | (with_reducible refine LeO.ite ?_ ?_)
   | (with_reducible refine LeO.bind ?_ (fun _ => ?_))
   | exact ih0 _ _ _ _ _ _ _ _ _ _ _ _ _ _
   | exact ih1 _ _
   | exact ih2 _ _ _ _ _
   | exact field_All.mono _ _ _ _ _ _ _ _ _ _ _ _ _
   | exact magnetolaw04_awake.mono _
   | exact magnetolaw04_ints.mono _ _ _
   | exact magnetolaw04_kind.mono _ _
   | exact LeO.none _
   | refine LeO.ite ?_ ?_
   | refine LeO.bind ?_ (fun _ => ?_)
set_option maxHeartbeats 8000000 in
set_option maxRecDepth 100000 in
theorem magnetolaw04_FieldGoes.calls (k : Nat) (a0_0 : Int) (a0_1 : Bool) (a0_2 : Bool) (a0_3 : Int) (a0_4 : Int) (a0_5 : Int) (a0_6 : Int) (a0_7 : Int) (a0_8 : Int) (a0_9 : Int) (a0_10 : Int) (a0_11 : Int) (r : Bool) (w : World) (h : magnetolaw04_FieldGoes.f k a0_0 a0_1 a0_2 a0_3 a0_4 a0_5 a0_6 a0_7 a0_8 a0_9 a0_10 a0_11 = some r) :
  Calls Try.prog 5 #[.agg #[.int .i64 a0_0, .bool a0_1, .bool a0_2, .int .i64 a0_3, .int .u8 a0_4, .int .u8 a0_5, .int .u8 a0_6, .int .u8 a0_7, .int .u8 a0_8, .int .u8 a0_9, .int .u8 a0_10, .int .u8 a0_11]] w fun e w' => e = .returned (.bool r) ∧ Below w.heap.size w w' := by
 have hu24 := Try.underlying24
 have HB := Aside0.mk (Below.refl w.heap.size w)
 have H : ((field_All.f k a0_0 a0_1 a0_2 a0_3 a0_4 a0_5 a0_6 a0_7 a0_8 a0_9 a0_10 a0_11).bind fun bt430 => (if bt430.2 = 0 then ((some (([1, 13, 5, wrap64 (8 * a0_3), 15, 1, 1, 1, 7] : List Int) : List Int)).bind fun y435 => (if a0_1 = true then (if 1 < (y435.length : Int) then (if 2 < (y435.length : Int) then (magnetolaw04_FieldGoes.j0 k bt430.1 ((y435.set (1 : Int).toNat 32).set (2 : Int).toNat 6) a0_0 a0_1 a0_2 a0_3 a0_4 a0_5 a0_6 a0_7 a0_8 a0_9 a0_10 a0_11) else (none)) else (none)) else (magnetolaw04_FieldGoes.j0 k bt430.1 y435 a0_0 a0_1 a0_2 a0_3 a0_4 a0_5 a0_6 a0_7 a0_8 a0_9 a0_10 a0_11))) else (if (bt430.1.length : Int) = 0 then ((magnetolaw04_awake.f k).bind fun t434 => (some t434)) else (none)))) = some r := h
 clear h
 replace H := Option.bind_eq_some_iff.mp H
 obtain ⟨⟨t430, t433⟩, A20, H⟩ := H
 replace H : (if t433 = 0 then ((some (([1, 13, 5, wrap64 (8 * a0_3), 15, 1, 1, 1, 7] : List Int) : List Int)).bind fun y435 => (if a0_1 = true then (if 1 < (y435.length : Int) then (if 2 < (y435.length : Int) then (magnetolaw04_FieldGoes.j0 k t430 ((y435.set (1 : Int).toNat 32).set (2 : Int).toNat 6) a0_0 a0_1 a0_2 a0_3 a0_4 a0_5 a0_6 a0_7 a0_8 a0_9 a0_10 a0_11) else (none)) else (none)) else (magnetolaw04_FieldGoes.j0 k t430 y435 a0_0 a0_1 a0_2 a0_3 a0_4 a0_5 a0_6 a0_7 a0_8 a0_9 a0_10 a0_11))) else (if (t430.length : Int) = 0 then ((magnetolaw04_awake.f k).bind fun t434 => (some t434)) else (none))) = some r := H
 have A2 := Aside0.mk A20
 clear A20
 by_cases c3 : t433 = 0
 ·
  rw [if_pos c3] at H
  have c3b0 : (t433 == 0) = true := beq_iff_eq.mpr c3
  have c3b1 : (t433 != 0) = false := bne_eq_false_iff_eq.mpr c3
  clear c3
  obtain ⟨y435, hy435⟩ : ∃ y_ : List Int, y_ = (([1, 13, 5, wrap64 (8 * a0_3), 15, 1, 1, 1, 7] : List Int)) := ⟨_, rfl⟩
  replace H : (if a0_1 = true then (if 1 < (y435.length : Int) then (if 2 < (y435.length : Int) then (magnetolaw04_FieldGoes.j0 k t430 ((y435.set (1 : Int).toNat 32).set (2 : Int).toNat 6) a0_0 a0_1 a0_2 a0_3 a0_4 a0_5 a0_6 a0_7 a0_8 a0_9 a0_10 a0_11) else (none)) else (none)) else (magnetolaw04_FieldGoes.j0 k t430 y435 a0_0 a0_1 a0_2 a0_3 a0_4 a0_5 a0_6 a0_7 a0_8 a0_9 a0_10 a0_11)) = some r := by first | (rw [hy435]; with_reducible exact H) | (have H2_ := (Option.bind_some _ _).symm.trans H; rw [hy435]; with_reducible exact H2_) | (have H2_ := (Option.bind_some _ _).symm.trans H; with_reducible exact H2_) | with_reducible exact H | (rw [hy435]; exact H) | exact H
  have Ny435 := Aside0.mk hy435
  clear hy435
  have HC4 := Aside0.mk H
  clear H
  go_enter Try.func5, Try.ntmps5
  go_upto_if 37 with (first | ((with_reducible refine gate_dst (N := 1) rfl ?_); refine box_event ?hg (N := 1) ?hd (cs := #[.int .i64 a0_0, .bool a0_1, .bool a0_2, .int .i64 a0_3, .int .u8 a0_4, .int .u8 a0_5, .int .u8 a0_6, .int .u8 a0_7, .int .u8 a0_8, .int .u8 a0_9, .int .u8 a0_10, .int .u8 a0_11]) (t := 24) ?hr ?_; (case hd => rfl); (case hg => rfl); (case hr => first | (go_simp; done) | (go_simp; rfl)); intro gb429 hg w5 hbox hb; have n0_ := Aside0.mk (below_step (by repeat (first | (with_reducible first | exact HB.out | apply below_alloc | apply pw_below_drewN | apply below_drew1) | exact HB.out)) hb); have n1_ := Aside0.mk (hbox); have n2_ := Aside0.mk ((by rw [hg]; exact (below_size (by repeat (first | (with_reducible first | exact HB.out | apply below_alloc | apply pw_below_drewN | apply below_drew1) | exact HB.out))) : w.heap.size ≤ gb429)); have n3_ := Aside0.mk ((by rw [hg]; exact (below_size (by repeat (first | (with_reducible first | exact HB.out | apply below_alloc | apply pw_below_drewN | apply below_drew1) | exact HB.out))) : w.heap.size ≤ gb429)); clear HB; have HB := n0_; have BK429 := n1_; have GW429 := n2_; have GE429 := n3_; clear n0_ n1_ n2_ n3_; clear hb hbox hg; have hcz6_0 : w5.cell? ⟨gb429, 0, none⟩ = some (.int .i64 a0_0) := (blk_cell BK429.out 0).trans rfl; have hcz6_1 : w5.cell? ⟨gb429, 1, none⟩ = some (.bool a0_1) := (blk_cell BK429.out 1).trans rfl; have hcz6_2 : w5.cell? ⟨gb429, 2, none⟩ = some (.bool a0_2) := (blk_cell BK429.out 2).trans rfl; have hcz6_3 : w5.cell? ⟨gb429, 3, none⟩ = some (.int .i64 a0_3) := (blk_cell BK429.out 3).trans rfl; have hcz6_4 : w5.cell? ⟨gb429, 4, none⟩ = some (.int .u8 a0_4) := (blk_cell BK429.out 4).trans rfl; have hcz6_5 : w5.cell? ⟨gb429, 5, none⟩ = some (.int .u8 a0_5) := (blk_cell BK429.out 5).trans rfl; have hcz6_6 : w5.cell? ⟨gb429, 6, none⟩ = some (.int .u8 a0_6) := (blk_cell BK429.out 6).trans rfl; have hcz6_7 : w5.cell? ⟨gb429, 7, none⟩ = some (.int .u8 a0_7) := (blk_cell BK429.out 7).trans rfl; have hcz6_8 : w5.cell? ⟨gb429, 8, none⟩ = some (.int .u8 a0_8) := (blk_cell BK429.out 8).trans rfl; have hcz6_9 : w5.cell? ⟨gb429, 9, none⟩ = some (.int .u8 a0_9) := (blk_cell BK429.out 9).trans rfl; have hcz6_10 : w5.cell? ⟨gb429, 10, none⟩ = some (.int .u8 a0_10) := (blk_cell BK429.out 10).trans rfl; have hcz6_11 : w5.cell? ⟨gb429, 11, none⟩ = some (.int .u8 a0_11) := (blk_cell BK429.out 11).trans rfl; have hfz6_0 := blk_frozen BK429.out 0; have hfz6_1 := blk_frozen BK429.out 1; have hfz6_2 := blk_frozen BK429.out 2; have hfz6_3 := blk_frozen BK429.out 3; have hfz6_4 := blk_frozen BK429.out 4; have hfz6_5 := blk_frozen BK429.out 5; have hfz6_6 := blk_frozen BK429.out 6; have hfz6_7 := blk_frozen BK429.out 7; have hfz6_8 := blk_frozen BK429.out 8; have hfz6_9 := blk_frozen BK429.out 9; have hfz6_10 := blk_frozen BK429.out 10; have hfz6_11 := blk_frozen BK429.out 11) | ((with_reducible refine gate_callee (f := 17) rfl ?_); refine goesL_ (some 21) rfl rfl Try.func17 (by kernel_rfl) rfl #[.agg #[.int .i64 a0_0, .bool a0_1, .bool a0_2, .int .i64 a0_3, .int .u8 a0_4, .int .u8 a0_5, .int .u8 a0_6, .int .u8 a0_7, .int .u8 a0_8, .int .u8 a0_9, .int .u8 a0_10, .int .u8 a0_11]] rfl (by (try simp only [List.map_toArray, List.map_cons, List.map_nil]); first | done | rfl | (simp only [List.length_drop, List.length_take]; rfl)) ?_; (with_reducible refine (field_All.calls k a0_0 a0_1 a0_2 a0_3 a0_4 a0_5 a0_6 a0_7 a0_8 a0_9 a0_10 a0_11 t430 t433 _ A2.out).mono ?_); rintro e w7 ⟨v431, rfl, ho0, hb⟩; refine ⟨_, rfl, ?_⟩; have n0_ := Aside0.mk (Kd.R_lower ho0 (below_size (by repeat (first | (with_reducible first | exact HB.out | apply below_alloc | apply pw_below_drewN | apply below_drew1 | refine below_set ?_ GE429.out) | exact HB.out)))); have n1_ := Aside0.mk (blk_below (g := gb429) (o := .cells #[.int .i64 a0_0, .bool a0_1, .bool a0_2, .int .i64 a0_3, .int .u8 a0_4, .int .u8 a0_5, .int .u8 a0_6, .int .u8 a0_7, .int .u8 a0_8, .int .u8 a0_9, .int .u8 a0_10, .int .u8 a0_11] 24 (0, 0)) (by (with_reducible repeat (first | refine blk_drewN ?_ _ | refine blk_drew ?_ | refine blk_alloc ?_ _)); exact BK429.out) hb); have n2_ := Aside0.mk (below_step (by repeat (first | (with_reducible first | exact HB.out | apply below_alloc | apply pw_below_drewN | apply below_drew1 | refine below_set ?_ GE429.out) | exact HB.out)) hb); clear BK429; clear HB; have HO432 := n0_; have BK429 := n1_; have HB := n2_; clear n0_ n1_ n2_; (try clear hb); (try clear hb2); (try clear hk); (try clear hi); (try clear ho0); have hcz8_0 : w7.cell? ⟨gb429, 0, none⟩ = some (.int .i64 a0_0) := (blk_cell BK429.out 0).trans rfl; have hcz8_1 : w7.cell? ⟨gb429, 1, none⟩ = some (.bool a0_1) := (blk_cell BK429.out 1).trans rfl; have hcz8_2 : w7.cell? ⟨gb429, 2, none⟩ = some (.bool a0_2) := (blk_cell BK429.out 2).trans rfl; have hcz8_3 : w7.cell? ⟨gb429, 3, none⟩ = some (.int .i64 a0_3) := (blk_cell BK429.out 3).trans rfl; have hcz8_4 : w7.cell? ⟨gb429, 4, none⟩ = some (.int .u8 a0_4) := (blk_cell BK429.out 4).trans rfl; have hcz8_5 : w7.cell? ⟨gb429, 5, none⟩ = some (.int .u8 a0_5) := (blk_cell BK429.out 5).trans rfl; have hcz8_6 : w7.cell? ⟨gb429, 6, none⟩ = some (.int .u8 a0_6) := (blk_cell BK429.out 6).trans rfl; have hcz8_7 : w7.cell? ⟨gb429, 7, none⟩ = some (.int .u8 a0_7) := (blk_cell BK429.out 7).trans rfl; have hcz8_8 : w7.cell? ⟨gb429, 8, none⟩ = some (.int .u8 a0_8) := (blk_cell BK429.out 8).trans rfl; have hcz8_9 : w7.cell? ⟨gb429, 9, none⟩ = some (.int .u8 a0_9) := (blk_cell BK429.out 9).trans rfl; have hcz8_10 : w7.cell? ⟨gb429, 10, none⟩ = some (.int .u8 a0_10) := (blk_cell BK429.out 10).trans rfl; have hcz8_11 : w7.cell? ⟨gb429, 11, none⟩ = some (.int .u8 a0_11) := (blk_cell BK429.out 11).trans rfl; have hfz8_0 := blk_frozen BK429.out 0; have hfz8_1 := blk_frozen BK429.out 1; have hfz8_2 := blk_frozen BK429.out 2; have hfz8_3 := blk_frozen BK429.out 3; have hfz8_4 := blk_frozen BK429.out 4; have hfz8_5 := blk_frozen BK429.out 5; have hfz8_6 := blk_frozen BK429.out 6; have hfz8_7 := blk_frozen BK429.out 7; have hfz8_8 := blk_frozen BK429.out 8; have hfz8_9 := blk_frozen BK429.out 9; have hfz8_10 := blk_frozen BK429.out 10; have hfz8_11 := blk_frozen BK429.out 11) | ((with_reducible refine gate_dst (N := 35) rfl ?_); refine Kd.R_lit (Kd.int .i64) _ 3 ?hg (N := 35) ?hd (xs := ([1, 13, 5, wrap64 (8 * a0_3), 15, 1, 1, 1, 7] : List Int)) (inner := [.int .i64 1, .int .i64 13, .int .i64 5, .int .i64 (wrap64 (8 * a0_3)), .int .i64 15, .int .i64 1, .int .i64 1, .int .i64 1, .int .i64 7]) (ok := fun _ => True) (okp := fun _ => True) ?hr ?hp (fun _ hk => hk) trivial (Below.refl _ _) (Nat.le_refl _) (by simp) ?_; (case hd => rfl); (case hg => rfl); (case hr => first | (go_simp; done) | (go_simp; rfl)); (case hp => exact (Reps.one (show Kd.M (Kd.int .i64) _ _ _ 1 [.int .i64 1] from rfl) (Reps.one (show Kd.M (Kd.int .i64) _ _ _ 13 [.int .i64 13] from rfl) (Reps.one (show Kd.M (Kd.int .i64) _ _ _ 5 [.int .i64 5] from rfl) (Reps.one (show Kd.M (Kd.int .i64) _ _ _ (wrap64 (8 * a0_3)) [.int .i64 (wrap64 (8 * a0_3))] from rfl) (Reps.one (show Kd.M (Kd.int .i64) _ _ _ 15 [.int .i64 15] from rfl) (Reps.one (show Kd.M (Kd.int .i64) _ _ _ 1 [.int .i64 1] from rfl) (Reps.one (show Kd.M (Kd.int .i64) _ _ _ 1 [.int .i64 1] from rfl) (Reps.one (show Kd.M (Kd.int .i64) _ _ _ 1 [.int .i64 1] from rfl) (Reps.one (show Kd.M (Kd.int .i64) _ _ _ 7 [.int .i64 7] from rfl) (Reps.none _ _))))))))))); intro v436 w9 ho10 hb hg_ hnew_; clear hg_ hnew_; (first | rw [← Ny435.out] at ho10 | (simp only [Int.reduceToNat] at ho10; rw [← Ny435.out] at ho10)); have n0_ := Aside0.mk (Kd.R_elder' (by (with_reducible repeat (first | apply Kd.R_alloc | apply Kd.R_drewN | apply Kd.R_drew)); exact HO432.out) (Kd.R_base ho10) hb); have n1_ := Aside0.mk (Kd.R_lower (Kd.R_new' ho10 (Kd.R_lt (by (with_reducible repeat (first | apply Kd.R_alloc | apply Kd.R_drewN | apply Kd.R_drew)); exact HO432.out))) (below_size (by repeat (first | (with_reducible first | exact HB.out | apply below_alloc | apply pw_below_drewN | apply below_drew1 | refine below_set ?_ GE429.out) | exact HB.out)))); have n2_ := Aside0.mk (blk_below (g := gb429) (o := .cells #[.int .i64 a0_0, .bool a0_1, .bool a0_2, .int .i64 a0_3, .int .u8 a0_4, .int .u8 a0_5, .int .u8 a0_6, .int .u8 a0_7, .int .u8 a0_8, .int .u8 a0_9, .int .u8 a0_10, .int .u8 a0_11] 24 (0, 0)) (by (with_reducible repeat (first | refine blk_drewN ?_ _ | refine blk_drew ?_ | refine blk_alloc ?_ _)); exact BK429.out) hb); have n3_ := Aside0.mk (below_step (by repeat (first | (with_reducible first | exact HB.out | apply below_alloc | apply pw_below_drewN | apply below_drew1 | refine below_set ?_ GE429.out) | exact HB.out)) hb); clear HO432; clear BK429; clear HB; have HO432 := n0_; have HO437 := n1_; have BK429 := n2_; have HB := n3_; clear n0_ n1_ n2_ n3_; clear hb ho10; have hcz11_0 : w9.cell? ⟨gb429, 0, none⟩ = some (.int .i64 a0_0) := (blk_cell BK429.out 0).trans rfl; have hcz11_1 : w9.cell? ⟨gb429, 1, none⟩ = some (.bool a0_1) := (blk_cell BK429.out 1).trans rfl; have hcz11_2 : w9.cell? ⟨gb429, 2, none⟩ = some (.bool a0_2) := (blk_cell BK429.out 2).trans rfl; have hcz11_3 : w9.cell? ⟨gb429, 3, none⟩ = some (.int .i64 a0_3) := (blk_cell BK429.out 3).trans rfl; have hcz11_4 : w9.cell? ⟨gb429, 4, none⟩ = some (.int .u8 a0_4) := (blk_cell BK429.out 4).trans rfl; have hcz11_5 : w9.cell? ⟨gb429, 5, none⟩ = some (.int .u8 a0_5) := (blk_cell BK429.out 5).trans rfl; have hcz11_6 : w9.cell? ⟨gb429, 6, none⟩ = some (.int .u8 a0_6) := (blk_cell BK429.out 6).trans rfl; have hcz11_7 : w9.cell? ⟨gb429, 7, none⟩ = some (.int .u8 a0_7) := (blk_cell BK429.out 7).trans rfl; have hcz11_8 : w9.cell? ⟨gb429, 8, none⟩ = some (.int .u8 a0_8) := (blk_cell BK429.out 8).trans rfl; have hcz11_9 : w9.cell? ⟨gb429, 9, none⟩ = some (.int .u8 a0_9) := (blk_cell BK429.out 9).trans rfl; have hcz11_10 : w9.cell? ⟨gb429, 10, none⟩ = some (.int .u8 a0_10) := (blk_cell BK429.out 10).trans rfl; have hcz11_11 : w9.cell? ⟨gb429, 11, none⟩ = some (.int .u8 a0_11) := (blk_cell BK429.out 11).trans rfl; have hfz11_0 := blk_frozen BK429.out 0; have hfz11_1 := blk_frozen BK429.out 1; have hfz11_2 := blk_frozen BK429.out 2; have hfz11_3 := blk_frozen BK429.out 3; have hfz11_4 := blk_frozen BK429.out 4; have hfz11_5 := blk_frozen BK429.out 5; have hfz11_6 := blk_frozen BK429.out 6; have hfz11_7 := blk_frozen BK429.out 7; have hfz11_8 := blk_frozen BK429.out 8; have hfz11_9 := blk_frozen BK429.out 9; have hfz11_10 := blk_frozen BK429.out 10; have hfz11_11 := blk_frozen BK429.out 11))
  (try simp only [Act.put, List.setIfInBounds_toArray, List.set_cons_zero, List.set_cons_succ])
  go_cut [] (fun wc => ∃ (kq : Nat) (x5_3 : List Int), Aside0 (magnetolaw04_FieldGoes.j0 kq t430 x5_3 a0_0 a0_1 a0_2 a0_3 a0_4 a0_5 a0_6 a0_7 a0_8 a0_9 a0_10 a0_11 = some r) ∧ Aside0 (kq ≤ k) ∧ Aside0 (Kd.R (Kd.int .i64) 3 wc w.heap.size (fun k_ => some k_ ≠ (v436 : Value).ownBlock) v431 t430) ∧ Aside0 (Kd.R (Kd.int .i64) 3 wc w.heap.size (fun k_ => some k_ ≠ (v431 : Value).ownBlock) v436 x5_3) ∧ Aside0 (wc.heap[gb429]? = some (.cells #[.int .i64 a0_0, .bool a0_1, .bool a0_2, .int .i64 a0_3, .int .u8 a0_4, .int .u8 a0_5, .int .u8 a0_6, .int .u8 a0_7, .int .u8 a0_8, .int .u8 a0_9, .int .u8 a0_10, .int .u8 a0_11] 24 (0, 0))) ∧ Aside0 (Below w.heap.size w wc))
  case first =>
   have H := HC4.out
   clear HC4
   by_cases c12 : a0_1 = true
   ·
    subst c12
    have H1 : (if 1 < (y435.length : Int) then (if 2 < (y435.length : Int) then (magnetolaw04_FieldGoes.j0 k t430 ((y435.set (1 : Int).toNat 32).set (2 : Int).toNat 6) a0_0 true a0_2 a0_3 a0_4 a0_5 a0_6 a0_7 a0_8 a0_9 a0_10 a0_11) else (none)) else (none)) = some r := by rw [if_pos rfl] at H; exact H
    clear H
    have H := H1
    clear H1
    by_cases c13 : 1 < (y435.length : Int)
    ·
     rw [if_pos c13] at H
     have c13b0 : decide (1 < (y435.length : Int)) = true := decide_eq_true c13
     have c13b1 : decide (1 < y435.length) = true := decide_eq_true (by omega)
     clear c13
     (first | rw [c13b0] | (simp only [i64_w, i32_w]; rw [c13b0]) | skip)
     obtain ⟨y438, hy438⟩ : ∃ y_ : List Int, y_ = (y435.set (1 : Int).toNat 32) := ⟨_, rfl⟩
     replace H : (if 2 < (y435.length : Int) then (magnetolaw04_FieldGoes.j0 k t430 (y438.set (2 : Int).toNat 6) a0_0 true a0_2 a0_3 a0_4 a0_5 a0_6 a0_7 a0_8 a0_9 a0_10 a0_11) else (none)) = some r := by first | (rw [hy438]; with_reducible exact H) | (have H2_ := (Option.bind_some _ _).symm.trans H; rw [hy438]; with_reducible exact H2_) | (have H2_ := (Option.bind_some _ _).symm.trans H; with_reducible exact H2_) | with_reducible exact H | (rw [hy438]; exact H) | exact H
     have Ny438 := Aside0.mk hy438
     clear hy438
     by_cases c15 : 2 < (y435.length : Int)
     ·
      rw [if_pos c15] at H
      have c15b0 : decide (2 < (y435.length : Int)) = true := decide_eq_true c15
      have c15b1 : decide (2 < y435.length) = true := decide_eq_true (by omega)
      clear c15
      obtain ⟨y439, hy439⟩ : ∃ y_ : List Int, y_ = (y438.set (2 : Int).toNat 6) := ⟨_, rfl⟩
      replace H : (magnetolaw04_FieldGoes.j0 k t430 y439 a0_0 true a0_2 a0_3 a0_4 a0_5 a0_6 a0_7 a0_8 a0_9 a0_10 a0_11) = some r := by first | (rw [hy439]; with_reducible exact H) | (have H2_ := (Option.bind_some _ _).symm.trans H; rw [hy439]; with_reducible exact H2_) | (have H2_ := (Option.bind_some _ _).symm.trans H; with_reducible exact H2_) | with_reducible exact H | (rw [hy439]; exact H) | exact H
      have Ny439 := Aside0.mk hy439
      clear hy439
      have H' := Aside0.mk H
      clear H
      have p14 : 0 ≤ (1 : Int) := (by omega)
      have q14 : (1 : Int) < ((y435.length : Int) : Int) := of_decide_eq_true (by first | (with_reducible assumption) | assumption)
      have qi14 : (1 < y435.length) = True := eq_true (by omega)
      obtain ⟨go14, co14, eo14, gb14, gl14, cl14, HG14⟩ := Kd.R_form HO437.out (by omega)
      (first | cases eo14 | (injection eo14 with ea_ en_ ec_; (first | subst ea_ | (injection ea_ with ea_; subst ea_)); subst ec_; clear en_))
      have GB14 := Aside0.mk gb14
      have GG14 := Aside0.mk HG14
      clear gb14 gl14 HG14
      obtain ⟨hx14_0, hf14_0⟩ := Kd.R_celln 0 HO437.out (1 : Int) p14 q14
      (try rw [show ((1 : Int)).toNat = 1 from rfl] at hx14_0)
      (try simp only [Nat.reduceMul, Nat.zero_mul, Nat.zero_add, Nat.reduceAdd] at hx14_0)
      (try rw [show ((1 : Int)).toNat = 1 from rfl] at hf14_0)
      (try simp only [Nat.reduceMul, Nat.zero_mul, Nat.zero_add, Nat.reduceAdd] at hf14_0)
      replace p14 := eq_true p14
      replace q14 := eq_true q14
      have n_ := Aside0.mk (Kd.R_mono (ok' := (fun k_ => some k_ ≠ (v431 : Value).ownBlock)) HO437.out (fun k_ hk => hk.2))
      clear HO437
      have HO437 := n_
      clear n_
      have HP17 := Kd.R_putg HO437.out (1 : Int) 32
      go_wp2_with (first | ((with_reducible refine gate_store (t := 3) (p := 39) rfl ?_); refine store_event (t := 3) (p := 39) (v := ?vo_w18) (w1 := (w9.setCell ⟨go14, (1 : Int).toNat, none⟩ (.int .i64 32))) ?hg ?ho ?hn ?hr ?_; (case ho => rfl); (case hg => rfl); (case hn => rfl); (case hr => first | (go_simp; done) | (go_simp; rfl)); intro w18 hw; have hg : w9.grownBy w18 (some go14) := (by rw [hw]; exact HP17.2); have hp_ : Kd.R (Kd.int .i64) 3 w18 w.heap.size (fun k_ => some k_ ≠ (v431 : Value).ownBlock) (.slice (some ⟨go14, 0, none⟩) y435.length co14) y438 := (by rw [hw, Ny438.out]; exact HP17.1); clear HP17; have n0_ := Aside0.mk (blk_grown (g := gb429) (o := .cells #[.int .i64 a0_0, .bool true, .bool a0_2, .int .i64 a0_3, .int .u8 a0_4, .int .u8 a0_5, .int .u8 a0_6, .int .u8 a0_7, .int .u8 a0_8, .int .u8 a0_9, .int .u8 a0_10, .int .u8 a0_11] 24 (0, 0)) (by (with_reducible repeat (first | refine blk_drewN ?_ _ | refine blk_drew ?_ | refine blk_alloc ?_ _)); exact BK429.out) hg (Kd.R_ne HO437.out BK429.out (by decide))); have n1_ := Aside0.mk (Kd.R_after (v := (.slice (some ⟨go14, 0, none⟩) y435.length co14)) (v1 := (.slice (some ⟨go14, 0, none⟩) y435.length co14)) (ok := (fun _ => True)) (by (with_reducible repeat (first | apply Kd.R_alloc | apply Kd.R_drewN | apply Kd.R_drew)); exact HO432.out) hg (.inl rfl)); have n2_ := Aside0.mk (hp_); have n3_ := Aside0.mk ((by rw [hw]; exact below_set (HB.out) GB14.out : Below w.heap.size w w18)); clear BK429; clear HO432; clear HO437; clear HB; have BK429 := n0_; have HO432 := n1_; have HO437 := n2_; have HB := n3_; clear n0_ n1_ n2_ n3_; clear hg hw hp_; have p16 : 0 ≤ (2 : Int) := (by omega); have q16 : (2 : Int) < ((y435.length : Int) : Int) := of_decide_eq_true (by first | (with_reducible assumption) | assumption); have qi16 : (2 < y435.length) = True := eq_true (by omega); obtain ⟨hx16_0, hf16_0⟩ := Kd.R_celln 0 HO437.out (2 : Int) p16 q16; (try rw [show ((2 : Int)).toNat = 2 from rfl] at hx16_0); (try simp only [Nat.reduceMul, Nat.zero_mul, Nat.zero_add, Nat.reduceAdd] at hx16_0); (try rw [show ((2 : Int)).toNat = 2 from rfl] at hf16_0); (try simp only [Nat.reduceMul, Nat.zero_mul, Nat.zero_add, Nat.reduceAdd] at hf16_0); replace p16 := eq_true p16; replace q16 := eq_true q16; obtain ⟨hy19_, hz19_⟩ := Kd.R_celln 0 HO437.out (2 : Int) (by omega) (of_decide_eq_true (by first | (with_reducible assumption) | assumption)); (try simp only [Int.reduceToNat, Int.toNat_zero, Int.toNat_ofNat, Nat.reduceMul, Nat.zero_mul, Nat.zero_add] at hy19_ hz19_); (try rw [show ((2 : Int)).toNat = 2 from rfl] at hy19_); (try rw [show ((2 : Int)).toNat = 2 from rfl] at hz19_); have HP19 := Kd.R_putg HO437.out (2 : Int) 6) | ((with_reducible refine gate_store (t := 3) (p := 41) rfl ?_); refine store_event (t := 3) (p := 41) (v := ?vo_w20) (w1 := (w18.setCell ⟨go14, (2 : Int).toNat, none⟩ (.int .i64 6))) ?hg ?ho ?hn ?hr ?_; (case ho => rfl); (case hg => rfl); (case hn => rfl); (case hr => first | (go_simp; done) | (go_simp; rfl)); intro w20 hw; have hg : w18.grownBy w20 (some go14) := (by rw [hw]; exact HP19.2); have hp_ : Kd.R (Kd.int .i64) 3 w20 w.heap.size (fun k_ => some k_ ≠ (v431 : Value).ownBlock) (.slice (some ⟨go14, 0, none⟩) y435.length co14) y439 := (by rw [hw, Ny439.out]; exact HP19.1); clear HP19; have n0_ := Aside0.mk (blk_grown (g := gb429) (o := .cells #[.int .i64 a0_0, .bool true, .bool a0_2, .int .i64 a0_3, .int .u8 a0_4, .int .u8 a0_5, .int .u8 a0_6, .int .u8 a0_7, .int .u8 a0_8, .int .u8 a0_9, .int .u8 a0_10, .int .u8 a0_11] 24 (0, 0)) (by (with_reducible repeat (first | refine blk_drewN ?_ _ | refine blk_drew ?_ | refine blk_alloc ?_ _)); exact BK429.out) hg (Kd.R_ne HO437.out BK429.out (by decide))); have n1_ := Aside0.mk (Kd.R_after (v := (.slice (some ⟨go14, 0, none⟩) y435.length co14)) (v1 := (.slice (some ⟨go14, 0, none⟩) y435.length co14)) (ok := (fun _ => True)) (by (with_reducible repeat (first | apply Kd.R_alloc | apply Kd.R_drewN | apply Kd.R_drew)); exact HO432.out) hg (.inl rfl)); have n2_ := Aside0.mk (hp_); have n3_ := Aside0.mk ((by rw [hw]; exact below_set (HB.out) GB14.out : Below w.heap.size w w20)); clear BK429; clear HO432; clear HO437; clear HB; have BK429 := n0_; have HO432 := n1_; have HO437 := n2_; have HB := n3_; clear n0_ n1_ n2_ n3_; clear hg hw hp_))
      go_meet
      case rel => exact ⟨_, (y439), H', ⟨by first | omega | exact Nat.le_refl _⟩, ⟨by (with_reducible repeat (first | apply Kd.R_alloc | apply Kd.R_drewN | apply Kd.R_drew)); exact Kd.R_mono HO432.out (fun _ hk => hk.2)⟩, ⟨by (with_reducible repeat (first | apply Kd.R_alloc | apply Kd.R_drewN | apply Kd.R_drew)); exact HO437.out⟩, ⟨by (with_reducible repeat (first | refine blk_drewN ?_ _ | refine blk_drew ?_ | refine blk_alloc ?_ _)); exact BK429.out⟩, ⟨by repeat (first | (with_reducible first | exact HB.out | apply below_alloc | apply pw_below_drewN | apply below_drew1 | refine below_set ?_ GE429.out) | exact HB.out)⟩⟩
     ·
      rw [if_neg c15] at H
      exact absurd H (by simp)
    ·
     rw [if_neg c13] at H
     exact absurd H (by simp)
   ·
    replace c12 := Bool.eq_false_iff.mpr c12
    subst c12
    have H1 : (magnetolaw04_FieldGoes.j0 k t430 y435 a0_0 false a0_2 a0_3 a0_4 a0_5 a0_6 a0_7 a0_8 a0_9 a0_10 a0_11) = some r := by rw [if_neg (show ¬ (false = true) by decide)] at H; exact H
    clear H
    have H := H1
    clear H1
    have H' := Aside0.mk H
    clear H
    go_wp2
    go_meet
    case rel => exact ⟨_, (y435), H', ⟨by first | omega | exact Nat.le_refl _⟩, ⟨by (with_reducible repeat (first | apply Kd.R_alloc | apply Kd.R_drewN | apply Kd.R_drew)); exact Kd.R_mono HO432.out (fun _ hk => hk.2)⟩, ⟨by (with_reducible repeat (first | apply Kd.R_alloc | apply Kd.R_drewN | apply Kd.R_drew)); exact Kd.R_mono HO437.out (fun _ hk => hk.2)⟩, ⟨by (with_reducible repeat (first | refine blk_drewN ?_ _ | refine blk_drew ?_ | refine blk_alloc ?_ _)); exact BK429.out⟩, ⟨by repeat (first | (with_reducible first | exact HB.out | apply below_alloc | apply pw_below_drewN | apply below_drew1 | refine below_set ?_ GE429.out) | exact HB.out)⟩⟩
  case rest =>
   clear HC4
   try clear c1
   try clear p1
   try clear q1
   try clear hx1
   try clear qi1
   try clear hf1
   try clear p2
   try clear c3
   try clear c3b0
   try clear c3b1
   try clear c5
   try clear p6
   try clear c12
   try clear c13
   try clear c13b0
   try clear c13b1
   try clear p14
   try clear q14
   try clear hx14
   try clear qi14
   try clear hf14
   try clear c15
   try clear c15b0
   try clear c15b1
   try clear p16
   try clear q16
   try clear hx16
   try clear qi16
   try clear hf16
   try clear c17
   try clear hcz11_0
   try clear hcz11_1
   try clear hcz11_10
   try clear hcz11_11
   try clear hcz11_2
   try clear hcz11_3
   try clear hcz11_4
   try clear hcz11_5
   try clear hcz11_6
   try clear hcz11_7
   try clear hcz11_8
   try clear hcz11_9
   try clear hcz6_0
   try clear hcz6_1
   try clear hcz6_10
   try clear hcz6_11
   try clear hcz6_2
   try clear hcz6_3
   try clear hcz6_4
   try clear hcz6_5
   try clear hcz6_6
   try clear hcz6_7
   try clear hcz6_8
   try clear hcz6_9
   try clear hcz8_0
   try clear hcz8_1
   try clear hcz8_10
   try clear hcz8_11
   try clear hcz8_2
   try clear hcz8_3
   try clear hcz8_4
   try clear hcz8_5
   try clear hcz8_6
   try clear hcz8_7
   try clear hcz8_8
   try clear hcz8_9
   try clear hfz11_0
   try clear hfz11_1
   try clear hfz11_10
   try clear hfz11_11
   try clear hfz11_2
   try clear hfz11_3
   try clear hfz11_4
   try clear hfz11_5
   try clear hfz11_6
   try clear hfz11_7
   try clear hfz11_8
   try clear hfz11_9
   try clear hfz6_0
   try clear hfz6_1
   try clear hfz6_10
   try clear hfz6_11
   try clear hfz6_2
   try clear hfz6_3
   try clear hfz6_4
   try clear hfz6_5
   try clear hfz6_6
   try clear hfz6_7
   try clear hfz6_8
   try clear hfz6_9
   try clear hfz8_0
   try clear hfz8_1
   try clear hfz8_10
   try clear hfz8_11
   try clear hfz8_2
   try clear hfz8_3
   try clear hfz8_4
   try clear hfz8_5
   try clear hfz8_6
   try clear hfz8_7
   try clear hfz8_8
   try clear hfz8_9
   try clear hx14_0
   try clear hx16_0
   try clear p14
   try clear p16
   try clear q14
   try clear q16
   obtain ⟨kq, x5_3, HA, HJ3, HO_3, HO_5, BK429, HB⟩ := hcut
   cases kq with
   | zero => exact absurd HA.out (by simp [magnetolaw04_FieldGoes.j0])
   | succ kj3 =>
    have H := HA.out
    clear HA
    simp only [magnetolaw04_FieldGoes.j0] at H
    have HC21 := Aside0.mk H
    clear H
    have hcz22_0 : wc.cell? ⟨gb429, 0, none⟩ = some (.int .i64 a0_0) := (blk_cell BK429.out 0).trans rfl
    have hcz22_1 : wc.cell? ⟨gb429, 1, none⟩ = some (.bool a0_1) := (blk_cell BK429.out 1).trans rfl
    have hcz22_2 : wc.cell? ⟨gb429, 2, none⟩ = some (.bool a0_2) := (blk_cell BK429.out 2).trans rfl
    have hcz22_3 : wc.cell? ⟨gb429, 3, none⟩ = some (.int .i64 a0_3) := (blk_cell BK429.out 3).trans rfl
    have hcz22_4 : wc.cell? ⟨gb429, 4, none⟩ = some (.int .u8 a0_4) := (blk_cell BK429.out 4).trans rfl
    have hcz22_5 : wc.cell? ⟨gb429, 5, none⟩ = some (.int .u8 a0_5) := (blk_cell BK429.out 5).trans rfl
    have hcz22_6 : wc.cell? ⟨gb429, 6, none⟩ = some (.int .u8 a0_6) := (blk_cell BK429.out 6).trans rfl
    have hcz22_7 : wc.cell? ⟨gb429, 7, none⟩ = some (.int .u8 a0_7) := (blk_cell BK429.out 7).trans rfl
    have hcz22_8 : wc.cell? ⟨gb429, 8, none⟩ = some (.int .u8 a0_8) := (blk_cell BK429.out 8).trans rfl
    have hcz22_9 : wc.cell? ⟨gb429, 9, none⟩ = some (.int .u8 a0_9) := (blk_cell BK429.out 9).trans rfl
    have hcz22_10 : wc.cell? ⟨gb429, 10, none⟩ = some (.int .u8 a0_10) := (blk_cell BK429.out 10).trans rfl
    have hcz22_11 : wc.cell? ⟨gb429, 11, none⟩ = some (.int .u8 a0_11) := (blk_cell BK429.out 11).trans rfl
    have hfz22_0 := blk_frozen BK429.out 0
    have hfz22_1 := blk_frozen BK429.out 1
    have hfz22_2 := blk_frozen BK429.out 2
    have hfz22_3 := blk_frozen BK429.out 3
    have hfz22_4 := blk_frozen BK429.out 4
    have hfz22_5 := blk_frozen BK429.out 5
    have hfz22_6 := blk_frozen BK429.out 6
    have hfz22_7 := blk_frozen BK429.out 7
    have hfz22_8 := blk_frozen BK429.out 8
    have hfz22_9 := blk_frozen BK429.out 9
    have hfz22_10 := blk_frozen BK429.out 10
    have hfz22_11 := blk_frozen BK429.out 11
    go_upto_if 43 with (fail)
    go_cut [] (fun wc => ∃ (kq : Nat) (x5_20 : List Int), Aside0 (magnetolaw04_FieldGoes.j1 kq t430 x5_20 = some r) ∧ Aside0 (kq ≤ kj3) ∧ Aside0 (Kd.R (Kd.int .i64) 3 wc w.heap.size (fun k_ => some k_ ≠ (v436 : Value).ownBlock) v431 t430) ∧ Aside0 (Kd.R (Kd.int .i64) 3 wc w.heap.size (fun k_ => some k_ ≠ (v431 : Value).ownBlock) v436 x5_20) ∧ Aside0 (wc.heap[gb429]? = some (.cells #[.int .i64 a0_0, .bool a0_1, .bool a0_2, .int .i64 a0_3, .int .u8 a0_4, .int .u8 a0_5, .int .u8 a0_6, .int .u8 a0_7, .int .u8 a0_8, .int .u8 a0_9, .int .u8 a0_10, .int .u8 a0_11] 24 (0, 0))) ∧ Aside0 (Below w.heap.size w wc))
    case first =>
     have H := HC21.out
     clear HC21
     by_cases c23 : a0_2 = true
     ·
      subst c23
      have H1 : (if 3 < (x5_3.length : Int) then (magnetolaw04_FieldGoes.j1 kj3 t430 (x5_3.set (3 : Int).toNat 0)) else (none)) = some r := by rw [if_pos rfl] at H; exact H
      clear H
      have H := H1
      clear H1
      by_cases c24 : 3 < (x5_3.length : Int)
      ·
       rw [if_pos c24] at H
       have c24b0 : decide (3 < (x5_3.length : Int)) = true := decide_eq_true c24
       have c24b1 : decide (3 < x5_3.length) = true := decide_eq_true (by omega)
       clear c24
       (first | rw [c24b0] | (simp only [i64_w, i32_w]; rw [c24b0]) | skip)
       obtain ⟨y440, hy440⟩ : ∃ y_ : List Int, y_ = (x5_3.set (3 : Int).toNat 0) := ⟨_, rfl⟩
       replace H : (magnetolaw04_FieldGoes.j1 kj3 t430 y440) = some r := by first | (rw [hy440]; with_reducible exact H) | (have H2_ := (Option.bind_some _ _).symm.trans H; rw [hy440]; with_reducible exact H2_) | (have H2_ := (Option.bind_some _ _).symm.trans H; with_reducible exact H2_) | with_reducible exact H | (rw [hy440]; exact H) | exact H
       have Ny440 := Aside0.mk hy440
       clear hy440
       have H' := Aside0.mk H
       clear H
       have p25 : 0 ≤ (3 : Int) := (by omega)
       have q25 : (3 : Int) < ((x5_3.length : Int) : Int) := of_decide_eq_true (by first | (with_reducible assumption) | assumption)
       have qi25 : (3 < x5_3.length) = True := eq_true (by omega)
       obtain ⟨go25, co25, eo25, gb25, gl25, cl25, HG25⟩ := Kd.R_form HO_5.out (by omega)
       (first | cases eo25 | (injection eo25 with ea_ en_ ec_; (first | subst ea_ | (injection ea_ with ea_; subst ea_)); subst ec_; clear en_))
       have GB25 := Aside0.mk gb25
       have GG25 := Aside0.mk HG25
       clear gb25 gl25 HG25
       obtain ⟨hx25_0, hf25_0⟩ := Kd.R_celln 0 HO_5.out (3 : Int) p25 q25
       (try rw [show ((3 : Int)).toNat = 3 from rfl] at hx25_0)
       (try simp only [Nat.reduceMul, Nat.zero_mul, Nat.zero_add, Nat.reduceAdd] at hx25_0)
       (try rw [show ((3 : Int)).toNat = 3 from rfl] at hf25_0)
       (try simp only [Nat.reduceMul, Nat.zero_mul, Nat.zero_add, Nat.reduceAdd] at hf25_0)
       replace p25 := eq_true p25
       replace q25 := eq_true q25
       have HP26 := Kd.R_putg HO_5.out (3 : Int) 0
       go_wp2_with (first | ((with_reducible refine gate_store (t := 3) (p := 45) rfl ?_); refine store_event (t := 3) (p := 45) (v := ?vo_w27) (w1 := (wc.setCell ⟨go25, (3 : Int).toNat, none⟩ (.int .i64 0))) ?hg ?ho ?hn ?hr ?_; (case ho => rfl); (case hg => rfl); (case hn => rfl); (case hr => first | (go_simp; done) | (go_simp; rfl)); intro w27 hw; have hg : wc.grownBy w27 (some go25) := (by rw [hw]; exact HP26.2); have hp_ : Kd.R (Kd.int .i64) 3 w27 w.heap.size (fun k_ => some k_ ≠ (v431 : Value).ownBlock) (.slice (some ⟨go25, 0, none⟩) x5_3.length co25) y440 := (by rw [hw, Ny440.out]; exact HP26.1); clear HP26; have n0_ := Aside0.mk (Kd.R_after (v := (.slice (some ⟨go25, 0, none⟩) x5_3.length co25)) (v1 := (.slice (some ⟨go25, 0, none⟩) x5_3.length co25)) (ok := (fun _ => True)) (by (with_reducible repeat (first | apply Kd.R_alloc | apply Kd.R_drewN | apply Kd.R_drew)); exact Kd.R_mono HO_3.out (fun _ hk => ⟨trivial, hk⟩)) hg (.inl rfl)); have n1_ := Aside0.mk (hp_); have n2_ := Aside0.mk (blk_grown (g := gb429) (o := .cells #[.int .i64 a0_0, .bool a0_1, .bool true, .int .i64 a0_3, .int .u8 a0_4, .int .u8 a0_5, .int .u8 a0_6, .int .u8 a0_7, .int .u8 a0_8, .int .u8 a0_9, .int .u8 a0_10, .int .u8 a0_11] 24 (0, 0)) (by (with_reducible repeat (first | refine blk_drewN ?_ _ | refine blk_drew ?_ | refine blk_alloc ?_ _)); exact BK429.out) hg (Kd.R_ne HO_5.out BK429.out (by decide))); have n3_ := Aside0.mk ((by rw [hw]; exact below_set (HB.out) GB25.out : Below w.heap.size w w27)); clear HO_3; clear HO_5; clear BK429; clear HB; have HO_3 := n0_; have HO_5 := n1_; have BK429 := n2_; have HB := n3_; clear n0_ n1_ n2_ n3_; clear hg hw hp_))
       go_meet
       case rel => exact ⟨_, (y440), H', ⟨by have := HJ3.out; first | omega | exact Nat.le_refl _⟩, ⟨by (with_reducible repeat (first | apply Kd.R_alloc | apply Kd.R_drewN | apply Kd.R_drew)); exact Kd.R_mono HO_3.out (fun _ hk => hk.2)⟩, ⟨by (with_reducible repeat (first | apply Kd.R_alloc | apply Kd.R_drewN | apply Kd.R_drew)); exact HO_5.out⟩, ⟨by (with_reducible repeat (first | refine blk_drewN ?_ _ | refine blk_drew ?_ | refine blk_alloc ?_ _)); exact BK429.out⟩, ⟨by repeat (first | (with_reducible first | exact HB.out | apply below_alloc | apply pw_below_drewN | apply below_drew1 | refine below_set ?_ GE429.out) | exact HB.out)⟩⟩
      ·
       rw [if_neg c24] at H
       exact absurd H (by simp)
     ·
      replace c23 := Bool.eq_false_iff.mpr c23
      subst c23
      have H1 : (magnetolaw04_FieldGoes.j1 kj3 t430 x5_3) = some r := by rw [if_neg (show ¬ (false = true) by decide)] at H; exact H
      clear H
      have H := H1
      clear H1
      have H' := Aside0.mk H
      clear H
      go_wp2
      go_meet
      case rel => exact ⟨_, (x5_3), H', ⟨by have := HJ3.out; first | omega | exact Nat.le_refl _⟩, ⟨by (with_reducible repeat (first | apply Kd.R_alloc | apply Kd.R_drewN | apply Kd.R_drew)); exact HO_3.out⟩, ⟨by (with_reducible repeat (first | apply Kd.R_alloc | apply Kd.R_drewN | apply Kd.R_drew)); exact HO_5.out⟩, ⟨by (with_reducible repeat (first | refine blk_drewN ?_ _ | refine blk_drew ?_ | refine blk_alloc ?_ _)); exact BK429.out⟩, ⟨by repeat (first | (with_reducible first | exact HB.out | apply below_alloc | apply pw_below_drewN | apply below_drew1 | refine below_set ?_ GE429.out) | exact HB.out)⟩⟩
    case rest =>
     clear HC21
     try clear c1
     try clear p1
     try clear q1
     try clear hx1
     try clear qi1
     try clear hf1
     try clear c2
     try clear p2
     try clear q2
     try clear hx2
     try clear qi2
     try clear hf2
     try clear c3
     try clear c3b0
     try clear c3b1
     try clear c5
     try clear p6
     try clear c12
     try clear c13
     try clear c13b0
     try clear c13b1
     try clear p14
     try clear q14
     try clear hx14
     try clear qi14
     try clear hf14
     try clear c15
     try clear c15b0
     try clear c15b1
     try clear p16
     try clear q16
     try clear hx16
     try clear qi16
     try clear hf16
     try clear c17
     try clear c23
     try clear c24
     try clear c24b0
     try clear c24b1
     try clear p25
     try clear q25
     try clear hx25
     try clear qi25
     try clear hf25
     try clear hcz11_0
     try clear hcz11_1
     try clear hcz11_10
     try clear hcz11_11
     try clear hcz11_2
     try clear hcz11_3
     try clear hcz11_4
     try clear hcz11_5
     try clear hcz11_6
     try clear hcz11_7
     try clear hcz11_8
     try clear hcz11_9
     try clear hcz22_0
     try clear hcz22_1
     try clear hcz22_10
     try clear hcz22_11
     try clear hcz22_2
     try clear hcz22_3
     try clear hcz22_4
     try clear hcz22_5
     try clear hcz22_6
     try clear hcz22_7
     try clear hcz22_8
     try clear hcz22_9
     try clear hcz6_0
     try clear hcz6_1
     try clear hcz6_10
     try clear hcz6_11
     try clear hcz6_2
     try clear hcz6_3
     try clear hcz6_4
     try clear hcz6_5
     try clear hcz6_6
     try clear hcz6_7
     try clear hcz6_8
     try clear hcz6_9
     try clear hcz8_0
     try clear hcz8_1
     try clear hcz8_10
     try clear hcz8_11
     try clear hcz8_2
     try clear hcz8_3
     try clear hcz8_4
     try clear hcz8_5
     try clear hcz8_6
     try clear hcz8_7
     try clear hcz8_8
     try clear hcz8_9
     try clear hfz11_0
     try clear hfz11_1
     try clear hfz11_10
     try clear hfz11_11
     try clear hfz11_2
     try clear hfz11_3
     try clear hfz11_4
     try clear hfz11_5
     try clear hfz11_6
     try clear hfz11_7
     try clear hfz11_8
     try clear hfz11_9
     try clear hfz22_0
     try clear hfz22_1
     try clear hfz22_10
     try clear hfz22_11
     try clear hfz22_2
     try clear hfz22_3
     try clear hfz22_4
     try clear hfz22_5
     try clear hfz22_6
     try clear hfz22_7
     try clear hfz22_8
     try clear hfz22_9
     try clear hfz6_0
     try clear hfz6_1
     try clear hfz6_10
     try clear hfz6_11
     try clear hfz6_2
     try clear hfz6_3
     try clear hfz6_4
     try clear hfz6_5
     try clear hfz6_6
     try clear hfz6_7
     try clear hfz6_8
     try clear hfz6_9
     try clear hfz8_0
     try clear hfz8_1
     try clear hfz8_10
     try clear hfz8_11
     try clear hfz8_2
     try clear hfz8_3
     try clear hfz8_4
     try clear hfz8_5
     try clear hfz8_6
     try clear hfz8_7
     try clear hfz8_8
     try clear hfz8_9
     try clear hx14_0
     try clear hx16_0
     try clear hx25_0
     try clear p1
     try clear p14
     try clear p16
     try clear p2
     try clear p25
     try clear p6
     try clear q1
     try clear q14
     try clear q16
     try clear q25
     obtain ⟨kq, x5_20, HA, HJ20, HO_3, HO_5, BK429, HB⟩ := hcut
     cases kq with
     | zero => exact absurd HA.out (by simp [magnetolaw04_FieldGoes.j1])
     | succ kj20 =>
      have H := HA.out
      clear HA
      simp only [magnetolaw04_FieldGoes.j1] at H
      obtain ⟨y441, hy441⟩ : ∃ y_ : List Int, y_ = (List.replicate 9 0) := ⟨_, rfl⟩
      replace H : (magnetolaw04_FieldGoes.l0 kj20 t430 x5_20 y441 0 0) = some r := by first | (rw [hy441]; with_reducible exact H) | (have H2_ := (Option.bind_some _ _).symm.trans H; rw [hy441]; with_reducible exact H2_) | (have H2_ := (Option.bind_some _ _).symm.trans H; with_reducible exact H2_) | with_reducible exact H | (rw [hy441]; exact H) | exact H
      have Ny441 := Aside0.mk hy441
      clear hy441
      have H' := Aside0.mk H
      clear H
      go_wp2_with (first | ((with_reducible refine gate_dst (N := 46) rfl ?_); refine Kd.R_make (Kd.int .i64) _ 3 rfl (N := 46) rfl 25 _ _ rfl 9 rfl rfl Try.underlying25 (.int .i64 0) 8 info3 rfl (by decide) (by omega) 0 (ok := fun _ => True) (okp := fun _ => True) rfl (fun _ hk => hk) trivial (by omega) (by omega) (Below.refl _ _) (Nat.le_refl _) ?_; intro v442 w28 ho29 hb hg_ hnew_; clear hg_ hnew_; (first | rw [← Ny441.out] at ho29 | (simp only [Int.reduceToNat] at ho29; rw [← Ny441.out] at ho29)); have n0_ := Aside0.mk (Kd.R_elder' (by (with_reducible repeat (first | apply Kd.R_alloc | apply Kd.R_drewN | apply Kd.R_drew)); exact HO_3.out) (Kd.R_base ho29) hb); have n1_ := Aside0.mk (Kd.R_elder' (by (with_reducible repeat (first | apply Kd.R_alloc | apply Kd.R_drewN | apply Kd.R_drew)); exact HO_5.out) (Kd.R_base ho29) hb); have n2_ := Aside0.mk (Kd.R_lower (Kd.R_new' (Kd.R_new' ho29 (Kd.R_lt (by (with_reducible repeat (first | apply Kd.R_alloc | apply Kd.R_drewN | apply Kd.R_drew)); exact HO_3.out))) (Kd.R_lt (by (with_reducible repeat (first | apply Kd.R_alloc | apply Kd.R_drewN | apply Kd.R_drew)); exact HO_5.out))) (below_size (by repeat (first | (with_reducible first | exact HB.out | apply below_alloc | apply pw_below_drewN | apply below_drew1 | refine below_set ?_ GE429.out) | exact HB.out)))); have n3_ := Aside0.mk (blk_below (g := gb429) (o := .cells #[.int .i64 a0_0, .bool a0_1, .bool a0_2, .int .i64 a0_3, .int .u8 a0_4, .int .u8 a0_5, .int .u8 a0_6, .int .u8 a0_7, .int .u8 a0_8, .int .u8 a0_9, .int .u8 a0_10, .int .u8 a0_11] 24 (0, 0)) (by (with_reducible repeat (first | refine blk_drewN ?_ _ | refine blk_drew ?_ | refine blk_alloc ?_ _)); exact BK429.out) hb); have n4_ := Aside0.mk (below_step (by repeat (first | (with_reducible first | exact HB.out | apply below_alloc | apply pw_below_drewN | apply below_drew1 | refine below_set ?_ GE429.out) | exact HB.out)) hb); clear HO_3; clear HO_5; clear BK429; clear HB; have HO_3 := n0_; have HO_5 := n1_; have HO443 := n2_; have BK429 := n3_; have HB := n4_; clear n0_ n1_ n2_ n3_ n4_; clear hb ho29))
      go_loopg [7, 8] kj20 (fun kq v7 v8 w' => ∃ (x6_3 : List Int) (x7_3 : Int) (x8_3 : Int), v7 = .int .i64 x7_3 ∧ v8 = .int .i64 x8_3 ∧ Aside0 (magnetolaw04_FieldGoes.l0 kq t430 x5_20 x6_3 x7_3 x8_3 = some r) ∧ Aside0 (kq ≤ kj20) ∧ Aside0 (Kd.R (Kd.int .i64) 3 w' w.heap.size (fun k_ => some k_ ≠ (v436 : Value).ownBlock ∧ some k_ ≠ (v442 : Value).ownBlock) v431 t430) ∧ Aside0 (Kd.R (Kd.int .i64) 3 w' w.heap.size (fun k_ => some k_ ≠ (v431 : Value).ownBlock ∧ some k_ ≠ (v442 : Value).ownBlock) v436 x5_20) ∧ Aside0 (Kd.R (Kd.int .i64) 3 w' w.heap.size (fun k_ => some k_ ≠ (v431 : Value).ownBlock ∧ some k_ ≠ (v436 : Value).ownBlock) v442 x6_3) ∧ Aside0 (w'.heap[gb429]? = some (.cells #[.int .i64 a0_0, .bool a0_1, .bool a0_2, .int .i64 a0_3, .int .u8 a0_4, .int .u8 a0_5, .int .u8 a0_6, .int .u8 a0_7, .int .u8 a0_8, .int .u8 a0_9, .int .u8 a0_10, .int .u8 a0_11] 24 (0, 0))) ∧ Aside0 (Below w.heap.size w w'))
      case atStart => exact ⟨(y441), (0), (0), (by first | rfl | (simp; done) | (simp [*]; done)), (by first | rfl | (simp; done) | (simp [*]; done)), H', ⟨Nat.le_refl _⟩, ⟨by (with_reducible repeat (first | apply Kd.R_alloc | apply Kd.R_drewN | apply Kd.R_drew)); exact HO_3.out⟩, ⟨by (with_reducible repeat (first | apply Kd.R_alloc | apply Kd.R_drewN | apply Kd.R_drew)); exact HO_5.out⟩, ⟨by (with_reducible repeat (first | apply Kd.R_alloc | apply Kd.R_drewN | apply Kd.R_drew)); exact Kd.R_mono HO443.out (fun _ hk => ⟨hk.1.2, hk.2⟩)⟩, ⟨by (with_reducible repeat (first | refine blk_drewN ?_ _ | refine blk_drew ?_ | refine blk_alloc ?_ _)); exact BK429.out⟩, ⟨by repeat (first | (with_reducible first | exact HB.out | apply below_alloc | apply pw_below_drewN | apply below_drew1 | refine below_set ?_ GE429.out) | exact HB.out)⟩⟩
      case round =>
       clear H'
       try clear c1
       try clear p1
       try clear q1
       try clear hx1
       try clear qi1
       try clear hf1
       try clear c2
       try clear p2
       try clear q2
       try clear hx2
       try clear qi2
       try clear hf2
       try clear c3
       try clear c3b0
       try clear c3b1
       try clear c5
       try clear p6
       try clear c12
       try clear c13
       try clear c13b0
       try clear c13b1
       try clear p14
       try clear q14
       try clear hx14
       try clear qi14
       try clear hf14
       try clear c15
       try clear c15b0
       try clear c15b1
       try clear p16
       try clear q16
       try clear hx16
       try clear qi16
       try clear hf16
       try clear c17
       try clear c23
       try clear c24
       try clear c24b0
       try clear c24b1
       try clear p25
       try clear q25
       try clear hx25
       try clear qi25
       try clear hf25
       try clear hcz11_0
       try clear hcz11_1
       try clear hcz11_10
       try clear hcz11_11
       try clear hcz11_2
       try clear hcz11_3
       try clear hcz11_4
       try clear hcz11_5
       try clear hcz11_6
       try clear hcz11_7
       try clear hcz11_8
       try clear hcz11_9
       try clear hcz22_0
       try clear hcz22_1
       try clear hcz22_10
       try clear hcz22_11
       try clear hcz22_2
       try clear hcz22_3
       try clear hcz22_4
       try clear hcz22_5
       try clear hcz22_6
       try clear hcz22_7
       try clear hcz22_8
       try clear hcz22_9
       try clear hcz6_0
       try clear hcz6_1
       try clear hcz6_10
       try clear hcz6_11
       try clear hcz6_2
       try clear hcz6_3
       try clear hcz6_4
       try clear hcz6_5
       try clear hcz6_6
       try clear hcz6_7
       try clear hcz6_8
       try clear hcz6_9
       try clear hcz8_0
       try clear hcz8_1
       try clear hcz8_10
       try clear hcz8_11
       try clear hcz8_2
       try clear hcz8_3
       try clear hcz8_4
       try clear hcz8_5
       try clear hcz8_6
       try clear hcz8_7
       try clear hcz8_8
       try clear hcz8_9
       try clear hfz11_0
       try clear hfz11_1
       try clear hfz11_10
       try clear hfz11_11
       try clear hfz11_2
       try clear hfz11_3
       try clear hfz11_4
       try clear hfz11_5
       try clear hfz11_6
       try clear hfz11_7
       try clear hfz11_8
       try clear hfz11_9
       try clear hfz22_0
       try clear hfz22_1
       try clear hfz22_10
       try clear hfz22_11
       try clear hfz22_2
       try clear hfz22_3
       try clear hfz22_4
       try clear hfz22_5
       try clear hfz22_6
       try clear hfz22_7
       try clear hfz22_8
       try clear hfz22_9
       try clear hfz6_0
       try clear hfz6_1
       try clear hfz6_10
       try clear hfz6_11
       try clear hfz6_2
       try clear hfz6_3
       try clear hfz6_4
       try clear hfz6_5
       try clear hfz6_6
       try clear hfz6_7
       try clear hfz6_8
       try clear hfz6_9
       try clear hfz8_0
       try clear hfz8_1
       try clear hfz8_10
       try clear hfz8_11
       try clear hfz8_2
       try clear hfz8_3
       try clear hfz8_4
       try clear hfz8_5
       try clear hfz8_6
       try clear hfz8_7
       try clear hfz8_8
       try clear hfz8_9
       try clear hx14_0
       try clear hx16_0
       try clear hx25_0
       try clear p1
       try clear p14
       try clear p16
       try clear p2
       try clear p25
       try clear p6
       try clear q1
       try clear q14
       try clear q16
       try clear q2
       try clear q25
       obtain ⟨x6_3, x7_3, x8_3, rfl, rfl, HA, HK3, HO_3, HO_5, HO_6, BK429, HB⟩ := hrel
       cases gk with
       | zero => exact absurd HA.out (by simp [magnetolaw04_FieldGoes.l0])
       | succ k3 =>
        have H := HA.out
        clear HA
        simp only [magnetolaw04_FieldGoes.l0] at H
        by_cases c30 : x8_3 < (t430.length : Int)
        ·
         rw [if_pos c30] at H
         have c30b0 : decide (x8_3 < (t430.length : Int)) = true := decide_eq_true c30
         clear c30
         by_cases c31 : 0 ≤ x8_3
         ·
          rw [if_pos c31] at H
          have c31b0 := eq_true c31
          have c31b1 : decide (0 ≤ x8_3) = true := decide_eq_true c31
          clear c31
          by_cases c32 : x8_3 ≤ (t430.length : Int)
          ·
           rw [if_pos c32] at H
           have c32b0 := eq_true c32
           have c32b1 : decide (x8_3 ≤ (t430.length : Int)) = true := decide_eq_true c32
           clear c32
           obtain ⟨y444, hy444⟩ : ∃ y_ : List Int, y_ = (t430.take (x8_3 : Int).toNat) := ⟨_, rfl⟩
           replace H : ((field_Next.f y444).bind fun bt448 => ((magnetolaw04_kind.f k3 bt448.1).bind fun t451 => (if bt448.2.2 = 0 then (if t451 < x7_3 then (none) else (if t451 > 8 then (none) else (if 0 ≤ t451 then (if t451 < (x6_3.length : Int) then (if bt448.2.1 = (rd x6_3 t451) then (magnetolaw04_FieldGoes.l0 k3 t430 x5_20 (x6_3.set (t451 : Int).toNat (wrap64 ((rd x6_3 t451) + 1))) t451 (wrap64 (x8_3 + 1))) else (none)) else (none)) else (none)))) else (none)))) = some r := by first | (rw [hy444]; with_reducible exact H) | (have H2_ := (Option.bind_some _ _).symm.trans H; rw [hy444]; with_reducible exact H2_) | (have H2_ := (Option.bind_some _ _).symm.trans H; with_reducible exact H2_) | with_reducible exact H | (rw [hy444]; exact H) | exact H
           have Ny444 := Aside0.mk hy444
           clear hy444
           replace H := Option.bind_eq_some_iff.mp H
           obtain ⟨⟨t448, t449, t450⟩, A330, H⟩ := H
           replace H : ((magnetolaw04_kind.f k3 t448).bind fun t451 => (if t450 = 0 then (if t451 < x7_3 then (none) else (if t451 > 8 then (none) else (if 0 ≤ t451 then (if t451 < (x6_3.length : Int) then (if t449 = (rd x6_3 t451) then (magnetolaw04_FieldGoes.l0 k3 t430 x5_20 (x6_3.set (t451 : Int).toNat (wrap64 ((rd x6_3 t451) + 1))) t451 (wrap64 (x8_3 + 1))) else (none)) else (none)) else (none)))) else (none))) = some r := H
           have A33 := Aside0.mk A330
           clear A330
           replace H := Option.bind_eq_some_iff.mp H
           obtain ⟨t451, A340, H⟩ := H
           replace H : (if t450 = 0 then (if t451 < x7_3 then (none) else (if t451 > 8 then (none) else (if 0 ≤ t451 then (if t451 < (x6_3.length : Int) then (if t449 = (rd x6_3 t451) then (magnetolaw04_FieldGoes.l0 k3 t430 x5_20 (x6_3.set (t451 : Int).toNat (wrap64 ((rd x6_3 t451) + 1))) t451 (wrap64 (x8_3 + 1))) else (none)) else (none)) else (none)))) else (none)) = some r := H
           have A34 := Aside0.mk A340
           clear A340
           by_cases c35 : t450 = 0
           ·
            rw [if_pos c35] at H
            have c35b0 : (t450 == 0) = true := beq_iff_eq.mpr c35
            have c35b1 : (t450 != 0) = false := bne_eq_false_iff_eq.mpr c35
            clear c35
            by_cases c36 : t451 < x7_3
            ·
             rw [if_pos c36] at H
             exact absurd H (by simp)
            ·
             rw [if_neg c36] at H
             have c36b0 : decide (t451 < x7_3) = false := decide_eq_false c36
             clear c36
             by_cases c37 : t451 > 8
             ·
              rw [if_pos c37] at H
              exact absurd H (by simp)
             ·
              rw [if_neg c37] at H
              have c37b0 : decide (8 < t451) = false := decide_eq_false c37
              clear c37
              by_cases c38 : 0 ≤ t451
              ·
               rw [if_pos c38] at H
               have c38b0 : decide (0 ≤ t451) = true := decide_eq_true c38
               clear c38
               by_cases c39 : t451 < (x6_3.length : Int)
               ·
                rw [if_pos c39] at H
                have c39b0 : decide (t451 < (x6_3.length : Int)) = true := decide_eq_true c39
                clear c39
                by_cases c40 : t449 = (rd x6_3 t451)
                ·
                 rw [if_pos c40] at H
                 have c40b0 : (t449 == (rd x6_3 t451)) = true := beq_iff_eq.mpr c40
                 have c40b1 : (t449 != (rd x6_3 t451)) = false := bne_eq_false_iff_eq.mpr c40
                 clear c40
                 obtain ⟨y454, hy454⟩ : ∃ y_ : List Int, y_ = (x6_3.set (t451 : Int).toNat (wrap64 ((rd x6_3 t451) + 1))) := ⟨_, rfl⟩
                 replace H : (magnetolaw04_FieldGoes.l0 k3 t430 x5_20 y454 t451 (wrap64 (x8_3 + 1))) = some r := by first | (rw [hy454]; with_reducible exact H) | (have H2_ := (Option.bind_some _ _).symm.trans H; rw [hy454]; with_reducible exact H2_) | (have H2_ := (Option.bind_some _ _).symm.trans H; with_reducible exact H2_) | with_reducible exact H | (rw [hy454]; exact H) | exact H
                 have Ny454 := Aside0.mk hy454
                 clear hy454
                 have H' := Aside0.mk H
                 clear H
                 obtain ⟨Ao42, co42, eo42⟩ := Kd.R_slice HO_3.out
                 subst eo42
                 have q43 : (x8_3 : Int) ≤ ((t430.length : Int) : Int) := of_decide_eq_true (by first | (with_reducible assumption) | assumption)
                 obtain ⟨i043, hi043, _, hsz43, _⟩ := info_parts info3
                 have hroom43 : t430.length ≤ co42 := (Kd.R_reads' HO_3.out).2.1
                 have hC43 : Kd.C (Kd.int .i64) _ Ao42 t430.length t430 := (Kd.R_reads' HO_3.out).2.2
                 have hcut43 := cut_to (P := Try.prog) 25 3 .i64 Try.underlying25 hi043 Ao42 t430.length co42 x8_3 (of_decide_eq_true (by first | (with_reducible assumption) | assumption)) q43 hroom43
                 have hr43 := Kd.C_take (m := (x8_3 : Int).toNat) hC43 (by omega)
                 have hy43 : y444.length = (x8_3 : Int).toNat := (by rw [Ny444.out, List.length_take]; omega)
                 rw [← Ny444.out] at hr43
                 rw [← hy43] at hcut43
                 have HR447 := Aside0.mk hr43
                 have HC447 := Aside0.mk (show y444.length ≤ co42 from by omega)
                 clear hr43 hC43 hroom43 hi043 hsz43
                 have KY43 := Aside0.mk hy43
                 clear hy43
                 have KL43 := Aside0.mk (show (x8_3 : Int).toNat ≤ t430.length from by omega)
                 replace q43 := eq_true q43
                 go_wp2_with (first | ((with_reducible refine gate_callee (f := 23) rfl ?_); refine goesL_ (some 57) rfl rfl Try.func23 (by kernel_rfl) rfl #[.slice Ao42 y444.length co42] rfl (by (try simp only [List.map_toArray, List.map_cons, List.map_nil]); first | done | rfl | (simp only [List.length_drop, List.length_take]; rfl)) ?_; (with_reducible refine (field_Next.calls _ _ y444 t448 t449 t450 _ ?side1 ?side2 A33.out).mono ?_); (case side1 => repeat (first | exact (by repeat (first | (with_reducible exact HR447.out) | (with_reducible refine Kd.C_alloc ?_ _) | (with_reducible refine Kd.C_drewN ?_ _) | (with_reducible refine Kd.C_drew ?_) | exact HR447.out)) | (with_reducible refine Kd.C_alloc ?_ _) | (with_reducible refine Kd.C_drewN ?_ _) | (with_reducible refine Kd.C_drew ?_))); (case side2 => exact HC447.out); rintro e w44 ⟨rfl, hb⟩; refine ⟨_, rfl, ?_⟩; have n0_ := Aside0.mk (Kd.R_below (by (with_reducible repeat (first | apply Kd.R_alloc | apply Kd.R_drewN | apply Kd.R_drew)); exact HO_3.out) hb); have n1_ := Aside0.mk (Kd.R_below (by (with_reducible repeat (first | apply Kd.R_alloc | apply Kd.R_drewN | apply Kd.R_drew)); exact HO_5.out) hb); have n2_ := Aside0.mk (Kd.R_below (by (with_reducible repeat (first | apply Kd.R_alloc | apply Kd.R_drewN | apply Kd.R_drew)); exact HO_6.out) hb); have n3_ := Aside0.mk (blk_below (g := gb429) (o := .cells #[.int .i64 a0_0, .bool a0_1, .bool a0_2, .int .i64 a0_3, .int .u8 a0_4, .int .u8 a0_5, .int .u8 a0_6, .int .u8 a0_7, .int .u8 a0_8, .int .u8 a0_9, .int .u8 a0_10, .int .u8 a0_11] 24 (0, 0)) (by (with_reducible repeat (first | refine blk_drewN ?_ _ | refine blk_drew ?_ | refine blk_alloc ?_ _)); exact BK429.out) hb); have n4_ := Aside0.mk (Kd.C_below (by repeat (first | (with_reducible exact HR447.out) | (with_reducible refine Kd.C_alloc ?_ _) | (with_reducible refine Kd.C_drewN ?_ _) | (with_reducible refine Kd.C_drew ?_) | exact HR447.out)) hb); have n5_ := Aside0.mk (below_step (by repeat (first | (with_reducible first | exact HB.out | apply below_alloc | apply pw_below_drewN | apply below_drew1 | refine below_set ?_ GE429.out) | exact HB.out)) hb); clear HO_3; clear HO_5; clear HO_6; clear BK429; clear HR447; clear HB; have HO_3 := n0_; have HO_5 := n1_; have HO_6 := n2_; have BK429 := n3_; have HR447 := n4_; have HB := n5_; clear n0_ n1_ n2_ n3_ n4_ n5_; (try clear hb); (try clear hb2); (try clear hk); (try clear hi)) | ((with_reducible refine gate_callee (f := 28) rfl ?_); refine goesL_ (some 62) rfl rfl Try.func28 (by kernel_rfl) rfl #[.int .i64 t448] rfl (by (try simp only [List.map_toArray, List.map_cons, List.map_nil]); first | done | rfl | (simp only [List.length_drop, List.length_take]; rfl)) ?_; (with_reducible refine (magnetolaw04_kind.calls k3 t448 t451 _ A34.out).mono ?_); rintro e w45 ⟨rfl, hb⟩; refine ⟨_, rfl, ?_⟩; have n0_ := Aside0.mk (Kd.R_below (by (with_reducible repeat (first | apply Kd.R_alloc | apply Kd.R_drewN | apply Kd.R_drew)); exact HO_3.out) hb); have n1_ := Aside0.mk (Kd.R_below (by (with_reducible repeat (first | apply Kd.R_alloc | apply Kd.R_drewN | apply Kd.R_drew)); exact HO_5.out) hb); have n2_ := Aside0.mk (Kd.R_below (by (with_reducible repeat (first | apply Kd.R_alloc | apply Kd.R_drewN | apply Kd.R_drew)); exact HO_6.out) hb); have n3_ := Aside0.mk (blk_below (g := gb429) (o := .cells #[.int .i64 a0_0, .bool a0_1, .bool a0_2, .int .i64 a0_3, .int .u8 a0_4, .int .u8 a0_5, .int .u8 a0_6, .int .u8 a0_7, .int .u8 a0_8, .int .u8 a0_9, .int .u8 a0_10, .int .u8 a0_11] 24 (0, 0)) (by (with_reducible repeat (first | refine blk_drewN ?_ _ | refine blk_drew ?_ | refine blk_alloc ?_ _)); exact BK429.out) hb); have n4_ := Aside0.mk (Kd.C_below (by repeat (first | (with_reducible exact HR447.out) | (with_reducible refine Kd.C_alloc ?_ _) | (with_reducible refine Kd.C_drewN ?_ _) | (with_reducible refine Kd.C_drew ?_) | exact HR447.out)) hb); have n5_ := Aside0.mk (below_step (by repeat (first | (with_reducible first | exact HB.out | apply below_alloc | apply pw_below_drewN | apply below_drew1 | refine below_set ?_ GE429.out) | exact HB.out)) hb); clear HO_3; clear HO_5; clear HO_6; clear BK429; clear HR447; clear HB; have HO_3 := n0_; have HO_5 := n1_; have HO_6 := n2_; have BK429 := n3_; have HR447 := n4_; have HB := n5_; clear n0_ n1_ n2_ n3_ n4_ n5_; (try clear hb); (try clear hb2); (try clear hk); (try clear hi); obtain ⟨Ao46, co46, eo46⟩ := Kd.R_slice HO_6.out; subst eo46; have p452 : 0 ≤ (t451 : Int) := of_decide_eq_true (by first | (with_reducible assumption) | assumption); have q452 : t451 < (x6_3.length : Int) := of_decide_eq_true (by first | (with_reducible assumption) | assumption); obtain ⟨ad452, e452, hx452_0⟩ := Kd.at_int (Kd.R_reads' HO_6.out).2.2 t451 p452 q452; cases e452; replace p452 := eq_true p452; replace q452 := eq_true q452; have p453 : 0 ≤ (t451 : Int) := of_decide_eq_true (by first | (with_reducible assumption) | assumption); have q453 : t451 < (x6_3.length : Int) := of_decide_eq_true (by first | (with_reducible assumption) | assumption); obtain ⟨ad453, e453, hx453_0⟩ := Kd.at_int (Kd.R_reads' HO_6.out).2.2 t451 p453 q453; obtain rfl : ad452 = ad453 := (by injection e453); replace p453 := eq_true p453; replace q453 := eq_true q453; have p41 : 0 ≤ (t451 : Int) := of_decide_eq_true (by first | (with_reducible assumption) | assumption); have q41 : (t451 : Int) < ((x6_3.length : Int) : Int) := of_decide_eq_true (by first | (with_reducible assumption) | assumption); obtain ⟨go41, co41, eo41, gb41, gl41, cl41, HG41⟩ := Kd.R_form HO_6.out (by omega); (first | cases eo41 | (injection eo41 with ea_ en_ ec_; (first | subst ea_ | (injection ea_ with ea_; subst ea_)); subst ec_; clear en_)); have GB41 := Aside0.mk gb41; have GG41 := Aside0.mk HG41; clear gb41 gl41 HG41; (first | simp only [add_plain] at hx452_0 | skip); (first | simp only [add_plain] at hx453_0 | skip); obtain ⟨hx41_0, hf41_0⟩ := Kd.R_celln 0 HO_6.out (t451 : Int) p41 q41; replace p41 := eq_true p41; replace q41 := eq_true q41; obtain ⟨hy47_, hz47_⟩ := Kd.R_celln 0 HO_6.out (t451 : Int) (of_decide_eq_true (by first | (with_reducible assumption) | assumption)) (of_decide_eq_true (by first | (with_reducible assumption) | assumption)); have HP47 := Kd.R_putg HO_6.out (t451 : Int) (wrap64 ((rd x6_3 t451) + 1))) | ((with_reducible refine gate_store (t := 3) (p := 87) rfl ?_); refine store_event (t := 3) (p := 87) (v := ?vo_w48) (w1 := (w45.setCell ⟨go41, (t451 : Int).toNat, none⟩ (.int .i64 (wrap64 ((rd x6_3 t451) + 1))))) ?hg ?ho ?hn ?hr ?_; (case ho => rfl); (case hg => rfl); (case hn => rfl); (case hr => first | (go_simp; done) | (go_simp; rfl)); intro w48 hw; have hg : w45.grownBy w48 (some go41) := (by rw [hw]; exact HP47.2); have hp_ : Kd.R (Kd.int .i64) 3 w48 w.heap.size (fun k_ => some k_ ≠ (.slice Ao42 t430.length co42 : Value).ownBlock ∧ some k_ ≠ (v436 : Value).ownBlock) (.slice (some ⟨go41, 0, none⟩) x6_3.length co46) y454 := (by rw [hw, Ny454.out]; exact HP47.1); clear HP47; have n0_ := Aside0.mk (Kd.R_after (v := (.slice (some ⟨go41, 0, none⟩) x6_3.length co46)) (v1 := (.slice (some ⟨go41, 0, none⟩) x6_3.length co46)) (ok := (fun k_ => some k_ ≠ (v436 : Value).ownBlock)) (by (with_reducible repeat (first | apply Kd.R_alloc | apply Kd.R_drewN | apply Kd.R_drew)); exact HO_3.out) hg (.inl rfl)); have n1_ := Aside0.mk (Kd.R_after (v := (.slice (some ⟨go41, 0, none⟩) x6_3.length co46)) (v1 := (.slice (some ⟨go41, 0, none⟩) x6_3.length co46)) (ok := (fun k_ => some k_ ≠ (.slice Ao42 t430.length co42 : Value).ownBlock)) (by (with_reducible repeat (first | apply Kd.R_alloc | apply Kd.R_drewN | apply Kd.R_drew)); exact HO_5.out) hg (.inl rfl)); have n2_ := Aside0.mk (hp_); have n3_ := Aside0.mk (blk_grown (g := gb429) (o := .cells #[.int .i64 a0_0, .bool a0_1, .bool a0_2, .int .i64 a0_3, .int .u8 a0_4, .int .u8 a0_5, .int .u8 a0_6, .int .u8 a0_7, .int .u8 a0_8, .int .u8 a0_9, .int .u8 a0_10, .int .u8 a0_11] 24 (0, 0)) (by (with_reducible repeat (first | refine blk_drewN ?_ _ | refine blk_drew ?_ | refine blk_alloc ?_ _)); exact BK429.out) hg (Kd.R_ne HO_6.out BK429.out (by decide))); have n4_ := Aside0.mk ((by rw [hw]; exact below_set (HB.out) GB41.out : Below w.heap.size w w48)); have n5_ := Aside0.mk ((show Kd.C (Kd.int .i64) w48 Ao42 y444.length y444 from by rw [Ny444.out]; exact Kd.C_take (m := (x8_3 : Int).toNat) ((Kd.R_reads' (Kd.R_after (v := (.slice (some ⟨go41, 0, none⟩) x6_3.length co46)) (v1 := (.slice (some ⟨go41, 0, none⟩) x6_3.length co46)) (ok := (fun k_ => some k_ ≠ (v436 : Value).ownBlock)) (by (with_reducible repeat (first | apply Kd.R_alloc | apply Kd.R_drewN | apply Kd.R_drew)); exact HO_3.out) hg (.inl rfl))).2.2) KL43.out)); clear HO_3; clear HO_5; clear HO_6; clear BK429; clear HB; clear HR447; have HO_3 := n0_; have HO_5 := n1_; have HO_6 := n2_; have BK429 := n3_; have HB := n4_; have HR447 := n5_; clear n0_ n1_ n2_ n3_ n4_ n5_; clear hg hw hp_))
                 go_roundg k3
                 case measure => have := HJ3.out; have := HJ20.out; have := HK3.out; omega
                 case rel => exact ⟨(y454), (t451), (wrap64 (x8_3 + 1)), (by first | rfl | (simp; done) | (simp [*]; done)), (by first | rfl | (simp; done) | (simp [*]; done)), H', ⟨by have := HJ3.out; have := HJ20.out; have := HK3.out; omega⟩, ⟨by (with_reducible repeat (first | apply Kd.R_alloc | apply Kd.R_drewN | apply Kd.R_drew)); exact HO_3.out⟩, ⟨by (with_reducible repeat (first | apply Kd.R_alloc | apply Kd.R_drewN | apply Kd.R_drew)); exact HO_5.out⟩, ⟨by (with_reducible repeat (first | apply Kd.R_alloc | apply Kd.R_drewN | apply Kd.R_drew)); exact HO_6.out⟩, ⟨by (with_reducible repeat (first | refine blk_drewN ?_ _ | refine blk_drew ?_ | refine blk_alloc ?_ _)); exact BK429.out⟩, ⟨by repeat (first | (with_reducible first | exact HB.out | apply below_alloc | apply pw_below_drewN | apply below_drew1 | refine below_set ?_ GE429.out) | exact HB.out)⟩⟩
                ·
                 rw [if_neg c40] at H
                 exact absurd H (by simp)
               ·
                rw [if_neg c39] at H
                exact absurd H (by simp)
              ·
               rw [if_neg c38] at H
               exact absurd H (by simp)
           ·
            rw [if_neg c35] at H
            exact absurd H (by simp)
          ·
           rw [if_neg c32] at H
           exact absurd H (by simp)
         ·
          rw [if_neg c31] at H
          exact absurd H (by simp)
        ·
         rw [if_neg c30] at H
         have c30b0 : decide (x8_3 < (t430.length : Int)) = false := decide_eq_false c30
         clear c30
         replace H := Option.bind_eq_some_iff.mp H
         obtain ⟨⟨t455, t456, t457⟩, A490, H⟩ := H
         replace H : ((some (([] : List Int) : List Int)).bind fun y458 => (if y458.length + t430.length < 17592186044416 then ((some (y458 ++ t430 : List Int)).bind fun y461 => (if y461.length < 17592186044416 then ((field_Next.f (y461 ++ [1])).bind fun bt467 => ((magnetolaw04_ints.f k3 x6_3 x5_20).bind fun t470 => (if t470 = true then ((magnetolaw04_kind.f k3 t455).bind fun t471 => (if t471 = 9 then (if t456 = 0 then (if t457 = 0 then (if bt467.2.2 = 12 then ((magnetolaw04_awake.f k3).bind fun t472 => (some t472)) else (none)) else (none)) else (none)) else (none))) else (none)))) else (none))) else (none))) = some r := H
         have A49 := Aside0.mk A490
         clear A490
         obtain ⟨y458, hy458⟩ : ∃ y_ : List Int, y_ = (([] : List Int)) := ⟨_, rfl⟩
         replace H : (if y458.length + t430.length < 17592186044416 then ((some (y458 ++ t430 : List Int)).bind fun y461 => (if y461.length < 17592186044416 then ((field_Next.f (y461 ++ [1])).bind fun bt467 => ((magnetolaw04_ints.f k3 x6_3 x5_20).bind fun t470 => (if t470 = true then ((magnetolaw04_kind.f k3 t455).bind fun t471 => (if t471 = 9 then (if t456 = 0 then (if t457 = 0 then (if bt467.2.2 = 12 then ((magnetolaw04_awake.f k3).bind fun t472 => (some t472)) else (none)) else (none)) else (none)) else (none))) else (none)))) else (none))) else (none)) = some r := by first | (rw [hy458]; with_reducible exact H) | (have H2_ := (Option.bind_some _ _).symm.trans H; rw [hy458]; with_reducible exact H2_) | (have H2_ := (Option.bind_some _ _).symm.trans H; with_reducible exact H2_) | with_reducible exact H | (rw [hy458]; exact H) | exact H
         have Ny458 := Aside0.mk hy458
         clear hy458
         by_cases c50 : y458.length + t430.length < 17592186044416
         ·
          rw [if_pos c50] at H
          have LMc50 := Aside0.mk c50
          clear c50
          obtain ⟨y461, hy461⟩ : ∃ y_ : List Int, y_ = (y458 ++ t430) := ⟨_, rfl⟩
          replace H : (if y461.length < 17592186044416 then ((field_Next.f (y461 ++ [1])).bind fun bt467 => ((magnetolaw04_ints.f k3 x6_3 x5_20).bind fun t470 => (if t470 = true then ((magnetolaw04_kind.f k3 t455).bind fun t471 => (if t471 = 9 then (if t456 = 0 then (if t457 = 0 then (if bt467.2.2 = 12 then ((magnetolaw04_awake.f k3).bind fun t472 => (some t472)) else (none)) else (none)) else (none)) else (none))) else (none)))) else (none)) = some r := by first | (rw [hy461]; with_reducible exact H) | (have H2_ := (Option.bind_some _ _).symm.trans H; rw [hy461]; with_reducible exact H2_) | (have H2_ := (Option.bind_some _ _).symm.trans H; with_reducible exact H2_) | with_reducible exact H | (rw [hy461]; exact H) | exact H
          have Ny461 := Aside0.mk hy461
          clear hy461
          by_cases c51 : y461.length < 17592186044416
          ·
           rw [if_pos c51] at H
           have LMc51 := Aside0.mk c51
           clear c51
           obtain ⟨y464, hy464⟩ : ∃ y_ : List Int, y_ = (y461 ++ [1]) := ⟨_, rfl⟩
           replace H : ((field_Next.f y464).bind fun bt467 => ((magnetolaw04_ints.f k3 x6_3 x5_20).bind fun t470 => (if t470 = true then ((magnetolaw04_kind.f k3 t455).bind fun t471 => (if t471 = 9 then (if t456 = 0 then (if t457 = 0 then (if bt467.2.2 = 12 then ((magnetolaw04_awake.f k3).bind fun t472 => (some t472)) else (none)) else (none)) else (none)) else (none))) else (none)))) = some r := by first | (rw [hy464]; with_reducible exact H) | (have H2_ := (Option.bind_some _ _).symm.trans H; rw [hy464]; with_reducible exact H2_) | (have H2_ := (Option.bind_some _ _).symm.trans H; with_reducible exact H2_) | with_reducible exact H | (rw [hy464]; exact H) | exact H
           have Ny464 := Aside0.mk hy464
           clear hy464
           replace H := Option.bind_eq_some_iff.mp H
           obtain ⟨⟨t467, t468, t469⟩, A520, H⟩ := H
           replace H : ((magnetolaw04_ints.f k3 x6_3 x5_20).bind fun t470 => (if t470 = true then ((magnetolaw04_kind.f k3 t455).bind fun t471 => (if t471 = 9 then (if t456 = 0 then (if t457 = 0 then (if t469 = 12 then ((magnetolaw04_awake.f k3).bind fun t472 => (some t472)) else (none)) else (none)) else (none)) else (none))) else (none))) = some r := H
           have A52 := Aside0.mk A520
           clear A520
           replace H := Option.bind_eq_some_iff.mp H
           obtain ⟨t470, A530, H⟩ := H
           replace H : (if t470 = true then ((magnetolaw04_kind.f k3 t455).bind fun t471 => (if t471 = 9 then (if t456 = 0 then (if t457 = 0 then (if t469 = 12 then ((magnetolaw04_awake.f k3).bind fun t472 => (some t472)) else (none)) else (none)) else (none)) else (none))) else (none)) = some r := H
           have A53 := Aside0.mk A530
           clear A530
           by_cases c54 : t470 = true
           ·
            subst c54
            have H1 : ((magnetolaw04_kind.f k3 t455).bind fun t471 => (if t471 = 9 then (if t456 = 0 then (if t457 = 0 then (if t469 = 12 then ((magnetolaw04_awake.f k3).bind fun t472 => (some t472)) else (none)) else (none)) else (none)) else (none))) = some r := by rw [if_pos rfl] at H; exact H
            clear H
            have H := H1
            clear H1
            replace H := Option.bind_eq_some_iff.mp H
            obtain ⟨t471, A550, H⟩ := H
            replace H : (if t471 = 9 then (if t456 = 0 then (if t457 = 0 then (if t469 = 12 then ((magnetolaw04_awake.f k3).bind fun t472 => (some t472)) else (none)) else (none)) else (none)) else (none)) = some r := H
            have A55 := Aside0.mk A550
            clear A550
            by_cases c56 : t471 = 9
            ·
             rw [if_pos c56] at H
             have c56b0 : (t471 == 9) = true := beq_iff_eq.mpr c56
             have c56b1 : (t471 != 9) = false := bne_eq_false_iff_eq.mpr c56
             clear c56
             by_cases c57 : t456 = 0
             ·
              rw [if_pos c57] at H
              have c57b0 : (t456 == 0) = true := beq_iff_eq.mpr c57
              have c57b1 : (t456 != 0) = false := bne_eq_false_iff_eq.mpr c57
              clear c57
              by_cases c58 : t457 = 0
              ·
               rw [if_pos c58] at H
               have c58b0 : (t457 == 0) = true := beq_iff_eq.mpr c58
               have c58b1 : (t457 != 0) = false := bne_eq_false_iff_eq.mpr c58
               clear c58
               by_cases c59 : t469 = 12
               ·
                rw [if_pos c59] at H
                have c59b0 : (t469 == 12) = true := beq_iff_eq.mpr c59
                have c59b1 : (t469 != 12) = false := bne_eq_false_iff_eq.mpr c59
                clear c59
                replace H := Option.bind_eq_some_iff.mp H
                obtain ⟨t472, A600, H⟩ := H
                replace H : (some t472) = some r := H
                have A60 := Aside0.mk A600
                clear A600
                obtain rfl := Option.some.inj H
                obtain ⟨Ao61, co61, eo61⟩ := Kd.R_slice HO_3.out
                subst eo61
                go_wp2_with (first | ((with_reducible refine gate_callee (f := 23) rfl ?_); refine goesL_ (some 91) rfl rfl Try.func23 (by kernel_rfl) rfl #[.slice Ao61 t430.length co61] rfl (by (try simp only [List.map_toArray, List.map_cons, List.map_nil]); first | done | rfl | (simp only [List.length_drop, List.length_take]; rfl)) ?_; (with_reducible refine (field_Next.calls _ _ t430 t455 t456 t457 _ ?side1 ?side2 A49.out).mono ?_); (case side1 => repeat (first | exact (Kd.R_reads' HO_3.out).2.2 | (with_reducible refine Kd.C_alloc ?_ _) | (with_reducible refine Kd.C_drewN ?_ _) | (with_reducible refine Kd.C_drew ?_))); (case side2 => exact (Kd.R_reads' HO_3.out).2.1); rintro e w62 ⟨rfl, hb⟩; refine ⟨_, rfl, ?_⟩; have n0_ := Aside0.mk (Kd.R_below (by (with_reducible repeat (first | apply Kd.R_alloc | apply Kd.R_drewN | apply Kd.R_drew)); exact HO_3.out) hb); have n1_ := Aside0.mk (Kd.R_below (by (with_reducible repeat (first | apply Kd.R_alloc | apply Kd.R_drewN | apply Kd.R_drew)); exact HO_5.out) hb); have n2_ := Aside0.mk (Kd.R_below (by (with_reducible repeat (first | apply Kd.R_alloc | apply Kd.R_drewN | apply Kd.R_drew)); exact HO_6.out) hb); have n3_ := Aside0.mk (blk_below (g := gb429) (o := .cells #[.int .i64 a0_0, .bool a0_1, .bool a0_2, .int .i64 a0_3, .int .u8 a0_4, .int .u8 a0_5, .int .u8 a0_6, .int .u8 a0_7, .int .u8 a0_8, .int .u8 a0_9, .int .u8 a0_10, .int .u8 a0_11] 24 (0, 0)) (by (with_reducible repeat (first | refine blk_drewN ?_ _ | refine blk_drew ?_ | refine blk_alloc ?_ _)); exact BK429.out) hb); have n4_ := Aside0.mk (below_step (by repeat (first | (with_reducible first | exact HB.out | apply below_alloc | apply pw_below_drewN | apply below_drew1 | refine below_set ?_ GE429.out) | exact HB.out)) hb); clear HO_3; clear HO_5; clear HO_6; clear BK429; clear HB; have HO_3 := n0_; have HO_5 := n1_; have HO_6 := n2_; have BK429 := n3_; have HB := n4_; clear n0_ n1_ n2_ n3_ n4_; (try clear hb); (try clear hb2); (try clear hk); (try clear hi)) | ((with_reducible refine gate_dst (N := 96) rfl ?_); refine Kd.R_lit (Kd.int .i64) _ 3 ?hg (N := 96) ?hd (xs := ([] : List Int)) (inner := []) (ok := fun _ => True) (okp := fun _ => True) ?hr ?hp (fun _ hk => hk) trivial (Below.refl _ _) (Nat.le_refl _) (by simp) ?_; (case hd => rfl); (case hg => rfl); (case hr => first | (go_simp; done) | (go_simp; rfl)); (case hp => exact (Reps.none _ _)); intro v459 w63 ho64 hb hg_ hnew_; clear hg_ hnew_; (first | rw [← Ny458.out] at ho64 | (simp only [Int.reduceToNat] at ho64; rw [← Ny458.out] at ho64)); have n0_ := Aside0.mk (Kd.R_elder' (by (with_reducible repeat (first | apply Kd.R_alloc | apply Kd.R_drewN | apply Kd.R_drew)); exact HO_3.out) (Kd.R_base ho64) hb); have n1_ := Aside0.mk (Kd.R_elder' (by (with_reducible repeat (first | apply Kd.R_alloc | apply Kd.R_drewN | apply Kd.R_drew)); exact HO_5.out) (Kd.R_base ho64) hb); have n2_ := Aside0.mk (Kd.R_elder' (by (with_reducible repeat (first | apply Kd.R_alloc | apply Kd.R_drewN | apply Kd.R_drew)); exact HO_6.out) (Kd.R_base ho64) hb); have n3_ := Aside0.mk (Kd.R_lower (Kd.R_new' (Kd.R_new' (Kd.R_new' ho64 (Kd.R_lt (by (with_reducible repeat (first | apply Kd.R_alloc | apply Kd.R_drewN | apply Kd.R_drew)); exact HO_3.out))) (Kd.R_lt (by (with_reducible repeat (first | apply Kd.R_alloc | apply Kd.R_drewN | apply Kd.R_drew)); exact HO_5.out))) (Kd.R_lt (by (with_reducible repeat (first | apply Kd.R_alloc | apply Kd.R_drewN | apply Kd.R_drew)); exact HO_6.out))) (below_size (by repeat (first | (with_reducible first | exact HB.out | apply below_alloc | apply pw_below_drewN | apply below_drew1 | refine below_set ?_ GE429.out) | exact HB.out)))); have n4_ := Aside0.mk (blk_below (g := gb429) (o := .cells #[.int .i64 a0_0, .bool a0_1, .bool a0_2, .int .i64 a0_3, .int .u8 a0_4, .int .u8 a0_5, .int .u8 a0_6, .int .u8 a0_7, .int .u8 a0_8, .int .u8 a0_9, .int .u8 a0_10, .int .u8 a0_11] 24 (0, 0)) (by (with_reducible repeat (first | refine blk_drewN ?_ _ | refine blk_drew ?_ | refine blk_alloc ?_ _)); exact BK429.out) hb); have n5_ := Aside0.mk (below_step (by repeat (first | (with_reducible first | exact HB.out | apply below_alloc | apply pw_below_drewN | apply below_drew1 | refine below_set ?_ GE429.out) | exact HB.out)) hb); clear HO_3; clear HO_5; clear HO_6; clear BK429; clear HB; have HO_3 := n0_; have HO_5 := n1_; have HO_6 := n2_; have HO460 := n3_; have BK429 := n4_; have HB := n5_; clear n0_ n1_ n2_ n3_ n4_ n5_; clear hb ho64) | ((with_reducible refine gate_builtin (b := .append) (xs := #[.tmp 96, .tmp 97]) rfl ?_); at_builtin; refine Kd.R_append_rows (Kd.int .i64) (w0 := w) w.heap.size rfl (.tmp 96) (.tmp 97) 25 3 (.int .i64 0) 8 rfl Try.underlying25 info3 rfl (by decide) (by omega) v459 y458 t430 _ _ _ (fun k_ => some k_ ≠ (.slice Ao61 t430.length co61 : Value).ownBlock ∧ some k_ ≠ (v436 : Value).ownBlock ∧ some k_ ≠ (v442 : Value).ownBlock) (fun _ => False) rfl rfl ?aO ?aR (fun _ _ h => h) (fun _ h => h.elim) ?aF ?aB ?aS ?aL ?_; (case aR => repeat (first | exact (Kd.R_reads' HO_3.out).2.2 | (with_reducible refine Kd.C_alloc ?_ _) | (with_reducible refine Kd.C_drewN ?_ _) | (with_reducible refine Kd.C_drew ?_))); (case aB => exact (by repeat (first | (with_reducible first | exact HB.out | apply below_alloc | apply pw_below_drewN | apply below_drew1 | refine below_set ?_ GE429.out) | exact HB.out))); (case aF => exact (fun k_ hk => ⟨Kd.fresh' (Kd.R_lt (by (with_reducible repeat (first | apply Kd.R_alloc | apply Kd.R_drewN | apply Kd.R_drew)); exact HO_3.out)) k_ hk, Kd.fresh' (Kd.R_lt (by (with_reducible repeat (first | apply Kd.R_alloc | apply Kd.R_drewN | apply Kd.R_drew)); exact HO_5.out)) k_ hk, Kd.fresh' (Kd.R_lt (by (with_reducible repeat (first | apply Kd.R_alloc | apply Kd.R_drewN | apply Kd.R_drew)); exact HO_6.out)) k_ hk⟩)); (case aO => exact (by (with_reducible repeat (first | apply Kd.R_alloc | apply Kd.R_drewN | apply Kd.R_drew)); exact Kd.R_mono HO460.out (fun _ hk => ⟨hk.1.1.2, ⟨hk.1.2, hk.2⟩⟩))); (case aS => exact (below_size (by repeat (first | (with_reducible first | exact HB.out | apply below_alloc | apply pw_below_drewN | apply below_drew1 | refine below_set ?_ GE429.out) | exact HB.out)))); (case aL => have := LMc50.out; omega); intro v462 w65 ho hb hg hat; rw [← Ny461.out] at ho; have n0_ := Aside0.mk (Kd.R_after (ok := (fun k_ => some k_ ≠ (v436 : Value).ownBlock ∧ some k_ ≠ (v442 : Value).ownBlock)) (by (with_reducible repeat (first | apply Kd.R_alloc | apply Kd.R_drewN | apply Kd.R_drew)); exact HO_3.out) hg hat); have n1_ := Aside0.mk (Kd.R_after (ok := (fun k_ => some k_ ≠ (.slice Ao61 t430.length co61 : Value).ownBlock ∧ some k_ ≠ (v442 : Value).ownBlock)) (by (with_reducible repeat (first | apply Kd.R_alloc | apply Kd.R_drewN | apply Kd.R_drew)); exact HO_5.out) hg hat); have n2_ := Aside0.mk (Kd.R_after (ok := (fun k_ => some k_ ≠ (.slice Ao61 t430.length co61 : Value).ownBlock ∧ some k_ ≠ (v436 : Value).ownBlock)) (by (with_reducible repeat (first | apply Kd.R_alloc | apply Kd.R_drewN | apply Kd.R_drew)); exact HO_6.out) hg hat); have n3_ := Aside0.mk (blk_grown (g := gb429) (o := .cells #[.int .i64 a0_0, .bool a0_1, .bool a0_2, .int .i64 a0_3, .int .u8 a0_4, .int .u8 a0_5, .int .u8 a0_6, .int .u8 a0_7, .int .u8 a0_8, .int .u8 a0_9, .int .u8 a0_10, .int .u8 a0_11] 24 (0, 0)) (by (with_reducible repeat (first | refine blk_drewN ?_ _ | refine blk_drew ?_ | refine blk_alloc ?_ _)); exact BK429.out) hg (Kd.R_ne HO460.out BK429.out (by decide))); have n4_ := Aside0.mk (hb); have n5_ := Aside0.mk (ho); clear HO_3; clear HO_5; clear HO_6; clear BK429; clear HB; clear HO460; have HO_3 := n0_; have HO_5 := n1_; have HO_6 := n2_; have BK429 := n3_; have HB := n4_; have HO463 := n5_; clear n0_ n1_ n2_ n3_ n4_ n5_; clear ho hb hg hat) | ((with_reducible refine gate_builtin (b := .append) (xs := #[.tmp 98, .tmp 99]) rfl ?_); at_builtin; refine Kd.R_append (Kd.int .i64) (w0 := w) w.heap.size rfl (.tmp 98) (.tmp 99) 25 3 (.int .i64 0) 8 rfl Try.underlying25 info3 rfl (by decide) (by omega) v462 y461 1 [.int .i64 1] (fun k_ => some k_ ≠ (.slice Ao61 t430.length co61 : Value).ownBlock ∧ some k_ ≠ (v436 : Value).ownBlock ∧ some k_ ≠ (v442 : Value).ownBlock) (fun _ => False) rfl rfl ?aP (fun _ hk => hk.elim) ?aF ?aO ?aB ?aS ?aL ?_; (case aP => exact rfl); (case aB => exact (by repeat (first | (with_reducible first | exact HB.out | apply below_alloc | apply pw_below_drewN | apply below_drew1 | refine below_set ?_ GE429.out) | exact HB.out))); (case aF => exact (fun k_ hk => ⟨Kd.fresh' (Kd.R_lt (by (with_reducible repeat (first | apply Kd.R_alloc | apply Kd.R_drewN | apply Kd.R_drew)); exact HO_3.out)) k_ hk, Kd.fresh' (Kd.R_lt (by (with_reducible repeat (first | apply Kd.R_alloc | apply Kd.R_drewN | apply Kd.R_drew)); exact HO_5.out)) k_ hk, Kd.fresh' (Kd.R_lt (by (with_reducible repeat (first | apply Kd.R_alloc | apply Kd.R_drewN | apply Kd.R_drew)); exact HO_6.out)) k_ hk⟩)); (case aO => exact (by (with_reducible repeat (first | apply Kd.R_alloc | apply Kd.R_drewN | apply Kd.R_drew)); exact HO463.out)); (case aS => exact (below_size (by repeat (first | (with_reducible first | exact HB.out | apply below_alloc | apply pw_below_drewN | apply below_drew1 | refine below_set ?_ GE429.out) | exact HB.out)))); (case aL => have := LMc51.out; omega); intro v465 w66 ho hb hg hat; rw [← Ny464.out] at ho; have n0_ := Aside0.mk (Kd.R_after (ok := (fun k_ => some k_ ≠ (v436 : Value).ownBlock ∧ some k_ ≠ (v442 : Value).ownBlock)) (by (with_reducible repeat (first | apply Kd.R_alloc | apply Kd.R_drewN | apply Kd.R_drew)); exact HO_3.out) hg hat); have n1_ := Aside0.mk (Kd.R_after (ok := (fun k_ => some k_ ≠ (.slice Ao61 t430.length co61 : Value).ownBlock ∧ some k_ ≠ (v442 : Value).ownBlock)) (by (with_reducible repeat (first | apply Kd.R_alloc | apply Kd.R_drewN | apply Kd.R_drew)); exact HO_5.out) hg hat); have n2_ := Aside0.mk (Kd.R_after (ok := (fun k_ => some k_ ≠ (.slice Ao61 t430.length co61 : Value).ownBlock ∧ some k_ ≠ (v436 : Value).ownBlock)) (by (with_reducible repeat (first | apply Kd.R_alloc | apply Kd.R_drewN | apply Kd.R_drew)); exact HO_6.out) hg hat); have n3_ := Aside0.mk (blk_grown (g := gb429) (o := .cells #[.int .i64 a0_0, .bool a0_1, .bool a0_2, .int .i64 a0_3, .int .u8 a0_4, .int .u8 a0_5, .int .u8 a0_6, .int .u8 a0_7, .int .u8 a0_8, .int .u8 a0_9, .int .u8 a0_10, .int .u8 a0_11] 24 (0, 0)) (by (with_reducible repeat (first | refine blk_drewN ?_ _ | refine blk_drew ?_ | refine blk_alloc ?_ _)); exact BK429.out) hg (Kd.R_ne HO463.out BK429.out (by decide))); have n4_ := Aside0.mk (hb); have n5_ := Aside0.mk (ho); clear HO_3; clear HO_5; clear HO_6; clear BK429; clear HB; clear HO463; have HO_3 := n0_; have HO_5 := n1_; have HO_6 := n2_; have BK429 := n3_; have HB := n4_; have HO466 := n5_; clear n0_ n1_ n2_ n3_ n4_ n5_; clear ho hb hg hat; obtain ⟨Ao67, co67, eo67⟩ := Kd.R_slice HO466.out; subst eo67) | ((with_reducible refine gate_callee (f := 23) rfl ?_); refine goesL_ (some 101) rfl rfl Try.func23 (by kernel_rfl) rfl #[.slice Ao67 y464.length co67] rfl (by (try simp only [List.map_toArray, List.map_cons, List.map_nil]); first | done | rfl | (simp only [List.length_drop, List.length_take]; rfl)) ?_; (with_reducible refine (field_Next.calls _ _ y464 t467 t468 t469 _ ?side1 ?side2 A52.out).mono ?_); (case side1 => repeat (first | exact (Kd.R_reads' HO466.out).2.2 | (with_reducible refine Kd.C_alloc ?_ _) | (with_reducible refine Kd.C_drewN ?_ _) | (with_reducible refine Kd.C_drew ?_))); (case side2 => exact (Kd.R_reads' HO466.out).2.1); rintro e w68 ⟨rfl, hb⟩; refine ⟨_, rfl, ?_⟩; have n0_ := Aside0.mk (Kd.R_below (by (with_reducible repeat (first | apply Kd.R_alloc | apply Kd.R_drewN | apply Kd.R_drew)); exact HO_3.out) hb); have n1_ := Aside0.mk (Kd.R_below (by (with_reducible repeat (first | apply Kd.R_alloc | apply Kd.R_drewN | apply Kd.R_drew)); exact HO_5.out) hb); have n2_ := Aside0.mk (Kd.R_below (by (with_reducible repeat (first | apply Kd.R_alloc | apply Kd.R_drewN | apply Kd.R_drew)); exact HO_6.out) hb); have n3_ := Aside0.mk (Kd.R_below (by (with_reducible repeat (first | apply Kd.R_alloc | apply Kd.R_drewN | apply Kd.R_drew)); exact HO466.out) hb); have n4_ := Aside0.mk (blk_below (g := gb429) (o := .cells #[.int .i64 a0_0, .bool a0_1, .bool a0_2, .int .i64 a0_3, .int .u8 a0_4, .int .u8 a0_5, .int .u8 a0_6, .int .u8 a0_7, .int .u8 a0_8, .int .u8 a0_9, .int .u8 a0_10, .int .u8 a0_11] 24 (0, 0)) (by (with_reducible repeat (first | refine blk_drewN ?_ _ | refine blk_drew ?_ | refine blk_alloc ?_ _)); exact BK429.out) hb); have n5_ := Aside0.mk (below_step (by repeat (first | (with_reducible first | exact HB.out | apply below_alloc | apply pw_below_drewN | apply below_drew1 | refine below_set ?_ GE429.out) | exact HB.out)) hb); clear HO_3; clear HO_5; clear HO_6; clear HO466; clear BK429; clear HB; have HO_3 := n0_; have HO_5 := n1_; have HO_6 := n2_; have HO466 := n3_; have BK429 := n4_; have HB := n5_; clear n0_ n1_ n2_ n3_ n4_ n5_; (try clear hb); (try clear hb2); (try clear hk); (try clear hi); obtain ⟨Ao69, co69, eo69⟩ := Kd.R_slice HO_6.out; subst eo69; obtain ⟨Ao70, co70, eo70⟩ := Kd.R_slice HO_5.out; subst eo70) | ((with_reducible refine gate_callee (f := 20) rfl ?_); refine goesL_ (some 107) rfl rfl Try.func20 (by kernel_rfl) rfl #[.slice Ao69 x6_3.length co69, .slice Ao70 x5_20.length co70] rfl (by (try simp only [List.map_toArray, List.map_cons, List.map_nil]); first | done | rfl | (simp only [List.length_drop, List.length_take]; rfl)) ?_; (with_reducible refine (magnetolaw04_ints.calls k3 _ _ x6_3 _ _ x5_20 true _ ?side1 ?side2 ?side3 ?side4 A53.out).mono ?_); (case side1 => repeat (first | exact (Kd.R_reads' HO_6.out).2.2 | (with_reducible refine Kd.C_alloc ?_ _) | (with_reducible refine Kd.C_drewN ?_ _) | (with_reducible refine Kd.C_drew ?_))); (case side2 => exact (Kd.R_reads' HO_6.out).2.1); (case side3 => repeat (first | exact (Kd.R_reads' HO_5.out).2.2 | (with_reducible refine Kd.C_alloc ?_ _) | (with_reducible refine Kd.C_drewN ?_ _) | (with_reducible refine Kd.C_drew ?_))); (case side4 => exact (Kd.R_reads' HO_5.out).2.1); rintro e w' ⟨rfl, ⟨nd, rfl⟩⟩; refine ⟨_, rfl, ?_⟩) | (go_at_call 28; (with_reducible refine (magnetolaw04_kind.calls k3 t455 t471 _ A55.out).mono ?_); rintro e w71 ⟨rfl, hb⟩; have n0_ := Aside0.mk (Kd.R_below (by (with_reducible repeat (first | apply Kd.R_alloc | apply Kd.R_drewN | apply Kd.R_drew)); exact HO_3.out) hb); have n1_ := Aside0.mk (Kd.R_below (by (with_reducible repeat (first | apply Kd.R_alloc | apply Kd.R_drewN | apply Kd.R_drew)); exact HO_5.out) hb); have n2_ := Aside0.mk (Kd.R_below (by (with_reducible repeat (first | apply Kd.R_alloc | apply Kd.R_drewN | apply Kd.R_drew)); exact HO_6.out) hb); have n3_ := Aside0.mk (Kd.R_below (by (with_reducible repeat (first | apply Kd.R_alloc | apply Kd.R_drewN | apply Kd.R_drew)); exact HO466.out) hb); have n4_ := Aside0.mk (blk_below (g := gb429) (o := .cells #[.int .i64 a0_0, .bool a0_1, .bool a0_2, .int .i64 a0_3, .int .u8 a0_4, .int .u8 a0_5, .int .u8 a0_6, .int .u8 a0_7, .int .u8 a0_8, .int .u8 a0_9, .int .u8 a0_10, .int .u8 a0_11] 24 (0, 0)) (by (with_reducible repeat (first | refine blk_drewN ?_ _ | refine blk_drew ?_ | refine blk_alloc ?_ _)); exact BK429.out) hb); have n5_ := Aside0.mk (below_step (by repeat (first | (with_reducible first | exact HB.out | apply below_alloc | apply pw_below_drewN | apply below_drew1 | refine below_set ?_ GE429.out) | exact HB.out)) hb); clear HO_3; clear HO_5; clear HO_6; clear HO466; clear BK429; clear HB; have HO_3 := n0_; have HO_5 := n1_; have HO_6 := n2_; have HO466 := n3_; have BK429 := n4_; have HB := n5_; clear n0_ n1_ n2_ n3_ n4_ n5_; (try clear hb); (try clear hb2); (try clear hk); (try clear hi)) | (go_at_call 19; (with_reducible refine (magnetolaw04_awake.calls k3  t472 _ A60.out).mono ?_); rintro e w72 ⟨rfl, hb⟩; have n0_ := Aside0.mk (Kd.R_below (by (with_reducible repeat (first | apply Kd.R_alloc | apply Kd.R_drewN | apply Kd.R_drew)); exact HO_3.out) hb); have n1_ := Aside0.mk (Kd.R_below (by (with_reducible repeat (first | apply Kd.R_alloc | apply Kd.R_drewN | apply Kd.R_drew)); exact HO_5.out) hb); have n2_ := Aside0.mk (Kd.R_below (by (with_reducible repeat (first | apply Kd.R_alloc | apply Kd.R_drewN | apply Kd.R_drew)); exact HO_6.out) hb); have n3_ := Aside0.mk (Kd.R_below (by (with_reducible repeat (first | apply Kd.R_alloc | apply Kd.R_drewN | apply Kd.R_drew)); exact HO466.out) hb); have n4_ := Aside0.mk (blk_below (g := gb429) (o := .cells #[.int .i64 a0_0, .bool a0_1, .bool a0_2, .int .i64 a0_3, .int .u8 a0_4, .int .u8 a0_5, .int .u8 a0_6, .int .u8 a0_7, .int .u8 a0_8, .int .u8 a0_9, .int .u8 a0_10, .int .u8 a0_11] 24 (0, 0)) (by (with_reducible repeat (first | refine blk_drewN ?_ _ | refine blk_drew ?_ | refine blk_alloc ?_ _)); exact BK429.out) hb); have n5_ := Aside0.mk (below_step (by repeat (first | (with_reducible first | exact HB.out | apply below_alloc | apply pw_below_drewN | apply below_drew1 | refine below_set ?_ GE429.out) | exact HB.out)) hb); clear HO_3; clear HO_5; clear HO_6; clear HO466; clear BK429; clear HB; have HO_3 := n0_; have HO_5 := n1_; have HO_6 := n2_; have HO466 := n3_; have BK429 := n4_; have HB := n5_; clear n0_ n1_ n2_ n3_ n4_ n5_; (try clear hb); (try clear hb2); (try clear hk); (try clear hi)))
                go_ret
                exact ⟨by first | rfl | (simp [errW_none, errW_some] <;> rfl) | (simp [*, errW_none, errW_some] <;> rfl), by repeat (first | (with_reducible first | exact HB.out | apply below_alloc | apply pw_below_drewN | apply below_drew1 | refine below_set ?_ GE429.out) | exact HB.out)⟩
               ·
                rw [if_neg c59] at H
                exact absurd H (by simp)
              ·
               rw [if_neg c58] at H
               exact absurd H (by simp)
             ·
              rw [if_neg c57] at H
              exact absurd H (by simp)
            ·
             rw [if_neg c56] at H
             exact absurd H (by simp)
           ·
            replace c54 := Bool.eq_false_iff.mpr c54
            subst c54
            have H1 : (none) = some r := by rw [if_neg (show ¬ (false = true) by decide)] at H; exact H
            clear H
            have H := H1
            clear H1
            exact absurd H (by simp)
          ·
           rw [if_neg c51] at H
           exact absurd H (by simp)
         ·
          rw [if_neg c50] at H
          exact absurd H (by simp)
 ·
  rw [if_neg c3] at H
  have c3b0 : (t433 == 0) = false := beq_eq_false_iff_ne.mpr c3
  have c3b1 : (t433 != 0) = true := bne_iff_ne.mpr c3
  by_cases c73 : (t430.length : Int) = 0
  ·
   rw [if_pos c73] at H
   have c73b0 : ((t430.length : Int) == 0) = true := beq_iff_eq.mpr c73
   have c73b1 : ((t430.length : Int) != 0) = false := bne_eq_false_iff_eq.mpr c73
   clear c73
   replace H := Option.bind_eq_some_iff.mp H
   obtain ⟨t434, A740, H⟩ := H
   replace H : (some t434) = some r := H
   have A74 := Aside0.mk A740
   clear A740
   obtain rfl := Option.some.inj H
   go_enter Try.func5, Try.ntmps5
   go_wp2_with (first | ((with_reducible refine gate_dst (N := 1) rfl ?_); refine box_event ?hg (N := 1) ?hd (cs := #[.int .i64 a0_0, .bool a0_1, .bool a0_2, .int .i64 a0_3, .int .u8 a0_4, .int .u8 a0_5, .int .u8 a0_6, .int .u8 a0_7, .int .u8 a0_8, .int .u8 a0_9, .int .u8 a0_10, .int .u8 a0_11]) (t := 24) ?hr ?_; (case hd => rfl); (case hg => rfl); (case hr => first | (go_simp; done) | (go_simp; rfl)); intro gb429 hg w75 hbox hb; have n0_ := Aside0.mk (below_step (by repeat (first | (with_reducible first | exact HB.out | apply below_alloc | apply pw_below_drewN | apply below_drew1) | exact HB.out)) hb); have n1_ := Aside0.mk (hbox); have n2_ := Aside0.mk ((by rw [hg]; exact (below_size (by repeat (first | (with_reducible first | exact HB.out | apply below_alloc | apply pw_below_drewN | apply below_drew1) | exact HB.out))) : w.heap.size ≤ gb429)); have n3_ := Aside0.mk ((by rw [hg]; exact (below_size (by repeat (first | (with_reducible first | exact HB.out | apply below_alloc | apply pw_below_drewN | apply below_drew1) | exact HB.out))) : w.heap.size ≤ gb429)); clear HB; have HB := n0_; have BK429 := n1_; have GW429 := n2_; have GE429 := n3_; clear n0_ n1_ n2_ n3_; clear hb hbox hg; have hcz76_0 : w75.cell? ⟨gb429, 0, none⟩ = some (.int .i64 a0_0) := (blk_cell BK429.out 0).trans rfl; have hcz76_1 : w75.cell? ⟨gb429, 1, none⟩ = some (.bool a0_1) := (blk_cell BK429.out 1).trans rfl; have hcz76_2 : w75.cell? ⟨gb429, 2, none⟩ = some (.bool a0_2) := (blk_cell BK429.out 2).trans rfl; have hcz76_3 : w75.cell? ⟨gb429, 3, none⟩ = some (.int .i64 a0_3) := (blk_cell BK429.out 3).trans rfl; have hcz76_4 : w75.cell? ⟨gb429, 4, none⟩ = some (.int .u8 a0_4) := (blk_cell BK429.out 4).trans rfl; have hcz76_5 : w75.cell? ⟨gb429, 5, none⟩ = some (.int .u8 a0_5) := (blk_cell BK429.out 5).trans rfl; have hcz76_6 : w75.cell? ⟨gb429, 6, none⟩ = some (.int .u8 a0_6) := (blk_cell BK429.out 6).trans rfl; have hcz76_7 : w75.cell? ⟨gb429, 7, none⟩ = some (.int .u8 a0_7) := (blk_cell BK429.out 7).trans rfl; have hcz76_8 : w75.cell? ⟨gb429, 8, none⟩ = some (.int .u8 a0_8) := (blk_cell BK429.out 8).trans rfl; have hcz76_9 : w75.cell? ⟨gb429, 9, none⟩ = some (.int .u8 a0_9) := (blk_cell BK429.out 9).trans rfl; have hcz76_10 : w75.cell? ⟨gb429, 10, none⟩ = some (.int .u8 a0_10) := (blk_cell BK429.out 10).trans rfl; have hcz76_11 : w75.cell? ⟨gb429, 11, none⟩ = some (.int .u8 a0_11) := (blk_cell BK429.out 11).trans rfl; have hfz76_0 := blk_frozen BK429.out 0; have hfz76_1 := blk_frozen BK429.out 1; have hfz76_2 := blk_frozen BK429.out 2; have hfz76_3 := blk_frozen BK429.out 3; have hfz76_4 := blk_frozen BK429.out 4; have hfz76_5 := blk_frozen BK429.out 5; have hfz76_6 := blk_frozen BK429.out 6; have hfz76_7 := blk_frozen BK429.out 7; have hfz76_8 := blk_frozen BK429.out 8; have hfz76_9 := blk_frozen BK429.out 9; have hfz76_10 := blk_frozen BK429.out 10; have hfz76_11 := blk_frozen BK429.out 11) | ((with_reducible refine gate_callee (f := 17) rfl ?_); refine goesL_ (some 21) rfl rfl Try.func17 (by kernel_rfl) rfl #[.agg #[.int .i64 a0_0, .bool a0_1, .bool a0_2, .int .i64 a0_3, .int .u8 a0_4, .int .u8 a0_5, .int .u8 a0_6, .int .u8 a0_7, .int .u8 a0_8, .int .u8 a0_9, .int .u8 a0_10, .int .u8 a0_11]] rfl (by (try simp only [List.map_toArray, List.map_cons, List.map_nil]); first | done | rfl | (simp only [List.length_drop, List.length_take]; rfl)) ?_; (with_reducible refine (field_All.calls k a0_0 a0_1 a0_2 a0_3 a0_4 a0_5 a0_6 a0_7 a0_8 a0_9 a0_10 a0_11 t430 t433 _ A2.out).mono ?_); rintro e w77 ⟨v431, rfl, ho0, hb⟩; refine ⟨_, rfl, ?_⟩; have n0_ := Aside0.mk (Kd.R_lower ho0 (below_size (by repeat (first | (with_reducible first | exact HB.out | apply below_alloc | apply pw_below_drewN | apply below_drew1 | refine below_set ?_ GE429.out) | exact HB.out)))); have n1_ := Aside0.mk (blk_below (g := gb429) (o := .cells #[.int .i64 a0_0, .bool a0_1, .bool a0_2, .int .i64 a0_3, .int .u8 a0_4, .int .u8 a0_5, .int .u8 a0_6, .int .u8 a0_7, .int .u8 a0_8, .int .u8 a0_9, .int .u8 a0_10, .int .u8 a0_11] 24 (0, 0)) (by (with_reducible repeat (first | refine blk_drewN ?_ _ | refine blk_drew ?_ | refine blk_alloc ?_ _)); exact BK429.out) hb); have n2_ := Aside0.mk (below_step (by repeat (first | (with_reducible first | exact HB.out | apply below_alloc | apply pw_below_drewN | apply below_drew1 | refine below_set ?_ GE429.out) | exact HB.out)) hb); clear BK429; clear HB; have HO432 := n0_; have BK429 := n1_; have HB := n2_; clear n0_ n1_ n2_; (try clear hb); (try clear hb2); (try clear hk); (try clear hi); (try clear ho0); obtain ⟨Ao78, co78, eo78⟩ := Kd.R_slice HO432.out; subst eo78) | (go_at_call 19; (with_reducible refine (magnetolaw04_awake.calls k  t434 _ A74.out).mono ?_); rintro e w79 ⟨rfl, hb⟩; have n0_ := Aside0.mk (Kd.R_below (by (with_reducible repeat (first | apply Kd.R_alloc | apply Kd.R_drewN | apply Kd.R_drew)); exact HO432.out) hb); have n1_ := Aside0.mk (blk_below (g := gb429) (o := .cells #[.int .i64 a0_0, .bool a0_1, .bool a0_2, .int .i64 a0_3, .int .u8 a0_4, .int .u8 a0_5, .int .u8 a0_6, .int .u8 a0_7, .int .u8 a0_8, .int .u8 a0_9, .int .u8 a0_10, .int .u8 a0_11] 24 (0, 0)) (by (with_reducible repeat (first | refine blk_drewN ?_ _ | refine blk_drew ?_ | refine blk_alloc ?_ _)); exact BK429.out) hb); have n2_ := Aside0.mk (below_step (by repeat (first | (with_reducible first | exact HB.out | apply below_alloc | apply pw_below_drewN | apply below_drew1 | refine below_set ?_ GE429.out) | exact HB.out)) hb); clear HO432; clear BK429; clear HB; have HO432 := n0_; have BK429 := n1_; have HB := n2_; clear n0_ n1_ n2_; (try clear hb); (try clear hb2); (try clear hk); (try clear hi)))
   go_ret
   exact ⟨by first | rfl | (simp [errW_none, errW_some] <;> rfl) | (simp [*, errW_none, errW_some] <;> rfl), by repeat (first | (with_reducible first | exact HB.out | apply below_alloc | apply pw_below_drewN | apply below_drew1 | refine below_set ?_ GE429.out) | exact HB.out)⟩
  ·
   rw [if_neg c73] at H
   exact absurd H (by simp)

end Go.Proofs.Ytakemodmdhglnaa.PA
