/- Functions of the program, in plain Lean, and their walks (printed; half the indent). Conditions: none. -/
-- PRINTED by print.py (a twelfth state) out of the translation. Not trusted: Lean checks it.
import Derived.Test.YtakemodmdhglnaaPAx0
import Derived.Test.YtakemodmdhglnaaPAx22
import Derived.Test.YtakemodmdhglnaaPAx23
namespace Go.Proofs.Ytakemodmdhglnaa.PA
open Go.RowKit Go.Proofs.YtakemodmdhglnaaW.PrintWords Go.Proofs.YtakemodmdhglnaaW.PrintLast Go.Proofs.YtakemodmdhglnaaW.PrintMore
attribute [local go_sem] max2_int min2_int max_two min_two max_three min_three max_four min_four   -- for this text's walks alone
set_option linter.unusedVariables false
set_option linter.unusedSimpArgs false

/-! ### magnetoref04_Frame: function 31 -/
mutual
def magnetoref04_Frame.j0 : Nat → List Int → Bool → Option (Int × Bool × Bool × Int × Int × Int × Int × Int × Int × Int × Int × Int × Int)
 | 0, _, _ => none
 | k + 1, x0, x18 => if x18 = true then (some (0, false, false, 0, 0, 0, 0, 0, 0, 0, 0, 0, 13)) else (if 0 < (x0.length : Int) then (if (rd x0 0) = 0 then ((magnetoref04_Widths.f k x0).bind fun t541 => (if 12 ≤ (x0.length : Int) then ((magnetoref04_Value.f k ((x0.take 12).drop 1)).bind fun t545 => (if 13 < (x0.length : Int) then (if 12 < (x0.length : Int) then (if (rd x0 13) = 1 then (if 32 ≤ (x0.length : Int) then ((magnetoref04_Value.f k ((x0.take 32).drop 14)).bind fun t550 => (if 32 < (x0.length : Int) then (magnetoref04_Frame.j1 k x0 t541 (wrap64 ((wrap64 (262144 * t545)) + t550)) ((rd x0 13) == 1) ((rd x0 32) == 1) 0 0 0 0 0 0 0 0 0) else (none))) else (none)) else (magnetoref04_Frame.j1 k x0 t541 t545 ((rd x0 13) == 1) ((rd x0 12) == 1) 0 0 0 0 0 0 0 0 0)) else (none)) else (none))) else (none))) else (some (0, false, false, 0, 0, 0, 0, 0, 0, 0, 0, 0, 11))) else (none))
def magnetoref04_Frame.j1 : Nat → List Int → List Int → Int → Bool → Bool → Int → Int → Int → Int → Int → Int → Int → Int → Int → Option (Int × Bool × Bool × Int × Int × Int × Int × Int × Int × Int × Int × Int × Int)
 | 0, _, _, _, _, _, _, _, _, _, _, _, _, _, _ => none
 | k + 1, x0, x5, x549000, x549001, x549002, x549003, x549004, x549005, x549006, x549007, x549008, x549009, x549010, x549011 => if 0 < (x5.length : Int) then (if 1 < (x5.length : Int) then (if 2 < (x5.length : Int) then (if 0 ≤ (wrap64 ((wrap64 ((wrap64 ((rd x5 0) + (rd x5 1))) + (rd x5 2))) - 4)) then (if (wrap64 ((wrap64 ((wrap64 ((rd x5 0) + (rd x5 1))) + (rd x5 2))) - 4)) ≤ (wrap64 ((wrap64 ((rd x5 0) + (rd x5 1))) + (rd x5 2))) then (if (wrap64 ((wrap64 ((rd x5 0) + (rd x5 1))) + (rd x5 2))) ≤ (x0.length : Int) then ((magnetoref04_Value.f k ((x0.take ((wrap64 ((wrap64 ((rd x5 0) + (rd x5 1))) + (rd x5 2))) : Int).toNat).drop ((wrap64 ((wrap64 ((wrap64 ((rd x5 0) + (rd x5 1))) + (rd x5 2))) - 4)) : Int).toNat)).bind fun t556 => (if t556 > 8 then (magnetoref04_Frame.j2 k x0 x5 (wrap64 ((wrap64 ((rd x5 0) + (rd x5 1))) + (rd x5 2))) x549000 x549001 x549002 8 x549004 x549005 x549006 x549007 x549008 x549009 x549010 x549011) else (magnetoref04_Frame.j2 k x0 x5 (wrap64 ((wrap64 ((rd x5 0) + (rd x5 1))) + (rd x5 2))) x549000 x549001 x549002 t556 x549004 x549005 x549006 x549007 x549008 x549009 x549010 x549011))) else (none)) else (none)) else (none)) else (none)) else (none)) else (none)
def magnetoref04_Frame.j2 : Nat → List Int → List Int → Int → Int → Bool → Bool → Int → Int → Int → Int → Int → Int → Int → Int → Int → Option (Int × Bool × Bool × Int × Int × Int × Int × Int × Int × Int × Int × Int × Int)
 | 0, _, _, _, _, _, _, _, _, _, _, _, _, _, _, _ => none
 | k + 1, x0, x5, x7, x549000, x549001, x549002, x549003, x549004, x549005, x549006, x549007, x549008, x549009, x549010, x549011 => magnetoref04_Frame.l0 k x0 x5 x7 0 x549000 x549001 x549002 x549003 x549004 x549005 x549006 x549007 x549008 x549009 x549010 x549011
def magnetoref04_Frame.l0 : Nat → List Int → List Int → Int → Int → Int → Bool → Bool → Int → Int → Int → Int → Int → Int → Int → Int → Int → Option (Int × Bool × Bool × Int × Int × Int × Int × Int × Int × Int × Int × Int × Int)
 | 0, _, _, _, _, _, _, _, _, _, _, _, _, _, _, _, _ => none
 | k + 1, x0, x5, x7, x8, x549000, x549001, x549002, x549003, x549004, x549005, x549006, x549007, x549008, x549009, x549010, x549011 => if 3 < (x5.length : Int) then (if x8 < (wrap64 (Int.tdiv (rd x5 3) 8)) then (if 0 ≤ (wrap64 (x7 + (wrap64 (8 * x8)))) then (if (wrap64 (x7 + (wrap64 (8 * x8)))) ≤ (wrap64 ((wrap64 (x7 + (wrap64 (8 * x8)))) + 8)) then (if (wrap64 ((wrap64 (x7 + (wrap64 (8 * x8)))) + 8)) ≤ (x0.length : Int) then ((magnetoref04_Value.f k ((x0.take ((wrap64 ((wrap64 (x7 + (wrap64 (8 * x8)))) + 8)) : Int).toNat).drop ((wrap64 (x7 + (wrap64 (8 * x8)))) : Int).toNat)).bind fun t559 => (if 0 ≤ x8 then (if x8 < 8 then (magnetoref04_Frame.l0 k x0 x5 x7 (wrap64 (x8 + 1)) x549000 x549001 x549002 x549003 (pk x8 0 ((t559) % 256) x549004) (pk x8 1 ((t559) % 256) x549005) (pk x8 2 ((t559) % 256) x549006) (pk x8 3 ((t559) % 256) x549007) (pk x8 4 ((t559) % 256) x549008) (pk x8 5 ((t559) % 256) x549009) (pk x8 6 ((t559) % 256) x549010) (pk x8 7 ((t559) % 256) x549011)) else (none)) else (none))) else (none)) else (none)) else (none)) else (some (x549000, x549001, x549002, x549003, x549004, x549005, x549006, x549007, x549008, x549009, x549010, x549011, 0))) else (none)
end
def magnetoref04_Frame.f (k : Nat) (l0 : List Int) : Option (Int × Bool × Bool × Int × Int × Int × Int × Int × Int × Int × Int × Int × Int) := (magnetoref04_Ahead.f k l0).bind fun t539 => (if t539 < 0 then (magnetoref04_Frame.j0 k l0 true) else (magnetoref04_Frame.j0 k l0 (decide ((l0.length : Int) < t539))))
theorem magnetoref04_Frame.mono_l : ∀ k, (∀ y0 y1, LeO (magnetoref04_Frame.j0 k y0 y1) (magnetoref04_Frame.j0 (k + 1) y0 y1)) ∧ (∀ y0 y1 y2 y3 y4 y5 y6 y7 y8 y9 y10 y11 y12 y13, LeO (magnetoref04_Frame.j1 k y0 y1 y2 y3 y4 y5 y6 y7 y8 y9 y10 y11 y12 y13) (magnetoref04_Frame.j1 (k + 1) y0 y1 y2 y3 y4 y5 y6 y7 y8 y9 y10 y11 y12 y13)) ∧ (∀ y0 y1 y2 y3 y4 y5 y6 y7 y8 y9 y10 y11 y12 y13 y14, LeO (magnetoref04_Frame.j2 k y0 y1 y2 y3 y4 y5 y6 y7 y8 y9 y10 y11 y12 y13 y14) (magnetoref04_Frame.j2 (k + 1) y0 y1 y2 y3 y4 y5 y6 y7 y8 y9 y10 y11 y12 y13 y14)) ∧ (∀ y0 y1 y2 y3 y4 y5 y6 y7 y8 y9 y10 y11 y12 y13 y14 y15, LeO (magnetoref04_Frame.l0 k y0 y1 y2 y3 y4 y5 y6 y7 y8 y9 y10 y11 y12 y13 y14 y15) (magnetoref04_Frame.l0 (k + 1) y0 y1 y2 y3 y4 y5 y6 y7 y8 y9 y10 y11 y12 y13 y14 y15))
 | 0 => ⟨fun _ _ r h => by simp [magnetoref04_Frame.j0] at h, fun _ _ _ _ _ _ _ _ _ _ _ _ _ _ r h => by simp [magnetoref04_Frame.j1] at h, fun _ _ _ _ _ _ _ _ _ _ _ _ _ _ _ r h => by simp [magnetoref04_Frame.j2] at h, fun _ _ _ _ _ _ _ _ _ _ _ _ _ _ _ _ r h => by simp [magnetoref04_Frame.l0] at h⟩
 | k + 1 => by
  obtain ⟨ih0, ih1, ih2, ih3⟩ := magnetoref04_Frame.mono_l k
  refine ⟨?_, ?_, ?_, ?_⟩
  ·
   intro y0 y1
   unfold magnetoref04_Frame.j0
   repeat' first
   | (with_reducible exact ih0 _ _)
   | (with_reducible exact ih1 _ _ _ _ _ _ _ _ _ _ _ _ _ _)
   | (with_reducible exact ih2 _ _ _ _ _ _ _ _ _ _ _ _ _ _ _)
   | (with_reducible exact ih3 _ _ _ _ _ _ _ _ _ _ _ _ _ _ _ _)
   | (with_reducible exact magnetoref04_Ahead.mono _ _)
   | (with_reducible exact magnetoref04_Value.mono _ _)
   | (with_reducible exact magnetoref04_Widths.mono _ _)
   | (with_reducible exact LeO.refl _)
   | (with_reducible exact LeO.none _)
   | (with_reducible refine LeO.ite ?_ ?_)
   | (with_reducible refine LeO.bind ?_ (fun _ => ?_))
   | exact ih0 _ _
   | exact ih1 _ _ _ _ _ _ _ _ _ _ _ _ _ _
   | exact ih2 _ _ _ _ _ _ _ _ _ _ _ _ _ _ _
   | exact ih3 _ _ _ _ _ _ _ _ _ _ _ _ _ _ _ _
   | exact magnetoref04_Ahead.mono _ _
   | exact magnetoref04_Value.mono _ _
   | exact magnetoref04_Widths.mono _ _
   | exact LeO.none _
   | refine LeO.ite ?_ ?_
   | refine LeO.bind ?_ (fun _ => ?_)
  ·
   intro y0 y1 y2 y3 y4 y5 y6 y7 y8 y9 y10 y11 y12 y13
   unfold magnetoref04_Frame.j1
   repeat' first
   | (with_reducible exact ih0 _ _)
   | (with_reducible exact ih1 _ _ _ _ _ _ _ _ _ _ _ _ _ _)
   | (with_reducible exact ih2 _ _ _ _ _ _ _ _ _ _ _ _ _ _ _)
   | (with_reducible exact ih3 _ _ _ _ _ _ _ _ _ _ _ _ _ _ _ _)
   | (with_reducible exact magnetoref04_Ahead.mono _ _)
   | (with_reducible exact magnetoref04_Value.mono _ _)
   | (with_reducible exact magnetoref04_Widths.mono _ _)
   | (with_reducible exact LeO.refl _)
   | (with_reducible exact LeO.none _)
   | (with_reducible refine LeO.ite ?_ ?_)
   | (with_reducible refine LeO.bind ?_ (fun _ => ?_))
   | exact ih0 _ _
   | exact ih1 _ _ _ _ _ _ _ _ _ _ _ _ _ _
   | exact ih2 _ _ _ _ _ _ _ _ _ _ _ _ _ _ _
   | exact ih3 _ _ _ _ _ _ _ _ _ _ _ _ _ _ _ _
   | exact magnetoref04_Ahead.mono _ _
   | exact magnetoref04_Value.mono _ _
   | exact magnetoref04_Widths.mono _ _
   | exact LeO.none _
   | refine LeO.ite ?_ ?_
   | refine LeO.bind ?_ (fun _ => ?_)
  ·
   intro y0 y1 y2 y3 y4 y5 y6 y7 y8 y9 y10 y11 y12 y13 y14
   unfold magnetoref04_Frame.j2
   repeat' first
   | (with_reducible exact ih0 _ _)
   | (with_reducible exact ih1 _ _ _ _ _ _ _ _ _ _ _ _ _ _)
   | (with_reducible exact ih2 _ _ _ _ _ _ _ _ _ _ _ _ _ _ _)
   | (with_reducible exact ih3 _ _ _ _ _ _ _ _ _ _ _ _ _ _ _ _)
   | (with_reducible exact magnetoref04_Ahead.mono _ _)
   | (with_reducible exact magnetoref04_Value.mono _ _)
   | (with_reducible exact magnetoref04_Widths.mono _ _)
   | (with_reducible exact LeO.refl _)
   | (with_reducible exact LeO.none _)
   | (with_reducible refine LeO.ite ?_ ?_)
   | (with_reducible refine LeO.bind ?_ (fun _ => ?_))
   | exact ih0 _ _
   | exact ih1 _ _ _ _ _ _ _ _ _ _ _ _ _ _
   | exact ih2 _ _ _ _ _ _ _ _ _ _ _ _ _ _ _
   | exact ih3 _ _ _ _ _ _ _ _ _ _ _ _ _ _ _ _
   | exact magnetoref04_Ahead.mono _ _
   | exact magnetoref04_Value.mono _ _
   | exact magnetoref04_Widths.mono _ _
   | exact LeO.none _
   | refine LeO.ite ?_ ?_
   | refine LeO.bind ?_ (fun _ => ?_)
  ·
   intro y0 y1 y2 y3 y4 y5 y6 y7 y8 y9 y10 y11 y12 y13 y14 y15
   unfold magnetoref04_Frame.l0
   repeat' first
   | (with_reducible exact ih0 _ _)
   | (with_reducible exact ih1 _ _ _ _ _ _ _ _ _ _ _ _ _ _)
   | (with_reducible exact ih2 _ _ _ _ _ _ _ _ _ _ _ _ _ _ _)
   | (with_reducible exact ih3 _ _ _ _ _ _ _ _ _ _ _ _ _ _ _ _)
   | (with_reducible exact magnetoref04_Ahead.mono _ _)
   | (with_reducible exact magnetoref04_Value.mono _ _)
   | (with_reducible exact magnetoref04_Widths.mono _ _)
   | (with_reducible exact LeO.refl _)
   | (with_reducible exact LeO.none _)
   | (with_reducible refine LeO.ite ?_ ?_)
   | (with_reducible refine LeO.bind ?_ (fun _ => ?_))
   | exact ih0 _ _
   | exact ih1 _ _ _ _ _ _ _ _ _ _ _ _ _ _
   | exact ih2 _ _ _ _ _ _ _ _ _ _ _ _ _ _ _
   | exact ih3 _ _ _ _ _ _ _ _ _ _ _ _ _ _ _ _
   | exact magnetoref04_Ahead.mono _ _
   | exact magnetoref04_Value.mono _ _
   | exact magnetoref04_Widths.mono _ _
   | exact LeO.none _
   | refine LeO.ite ?_ ?_
   | refine LeO.bind ?_ (fun _ => ?_)
theorem magnetoref04_Frame.mono : ∀ a0 k, LeO (magnetoref04_Frame.f k a0) (magnetoref04_Frame.f (k + 1) a0) := by
 intro a0 k
 obtain ⟨ih0, ih1, ih2, ih3⟩ := magnetoref04_Frame.mono_l k
 unfold magnetoref04_Frame.f
 repeat' first
   | (with_reducible exact ih0 _ _)
   | (with_reducible exact ih1 _ _ _ _ _ _ _ _ _ _ _ _ _ _)
   | (with_reducible exact ih2 _ _ _ _ _ _ _ _ _ _ _ _ _ _ _)
   | (with_reducible exact ih3 _ _ _ _ _ _ _ _ _ _ _ _ _ _ _ _)
   | (with_reducible exact magnetoref04_Ahead.mono _ _)
   | (with_reducible exact magnetoref04_Value.mono _ _)
   | (with_reducible exact magnetoref04_Widths.mono _ _)
   | (with_reducible exact LeO.refl _)
   | (with_reducible exact LeO.none _)
   | (with_reducible refine LeO.ite ?_ ?_)
   | (with_reducible refine LeO.bind ?_ (fun _ => ?_))
   | exact ih0 _ _
   | exact ih1 _ _ _ _ _ _ _ _ _ _ _ _ _ _
   | exact ih2 _ _ _ _ _ _ _ _ _ _ _ _ _ _ _
   | exact ih3 _ _ _ _ _ _ _ _ _ _ _ _ _ _ _ _
   | exact magnetoref04_Ahead.mono _ _
   | exact magnetoref04_Value.mono _ _
   | exact magnetoref04_Widths.mono _ _
   | exact LeO.none _
   | refine LeO.ite ?_ ?_
   | refine LeO.bind ?_ (fun _ => ?_)
def magnetoref04_Frame.T7 : Bool × List (List Nat × List Nat) := (true, [([], []), ([0], [0]), ([1], [1]), ([], []), ([3], [3]), ([4], [4]), ([5], [5]), ([], []), ([7], [7]), ([8], [8]), ([9], [9]), ([2, 6, 10], [2, 6, 10]), ([], []), ([12, 11, 2, 0, 1, 2, 3, 4, 5, 6, 7, 8, 9, 10, 11, 12], [11, 12])])
def magnetoref04_Frame.B7 : List Nat := [0, 1, 3, 0, 8, 24, 56, 0, 128, 384, 896, 2047, 0, 8191]
theorem magnetoref04_Frame.tab7 : rtab .any (opsOf Try.f31 7) = magnetoref04_Frame.T7 := by kernel_rfl
theorem magnetoref04_Frame.bits7 : waitsOk magnetoref04_Frame.T7.2 magnetoref04_Frame.B7 = true := by kernel_rfl
def magnetoref04_Frame.T9 : Bool × List (List Nat × List Nat) := (true, [([], []), ([0], [0]), ([1], [1]), ([], []), ([3], [3]), ([4], [4]), ([2, 5], [2, 5]), ([0, 1, 2, 3, 4, 5, 6], []), ([7, 6, 5, 0, 1, 2, 3, 4, 5, 6], [6, 7])])
def magnetoref04_Frame.B9 : List Nat := [0, 1, 3, 0, 8, 24, 63, 127, 255]
theorem magnetoref04_Frame.tab9 : rtab .any (opsOf Try.f31 9) = magnetoref04_Frame.T9 := by kernel_rfl
theorem magnetoref04_Frame.bits9 : waitsOk magnetoref04_Frame.T9.2 magnetoref04_Frame.B9 = true := by kernel_rfl
def magnetoref04_Frame.T11 : Bool × List (List Nat × List Nat) := (true, [([], []), ([0], [0]), ([1], [1]), ([], []), ([3], [3]), ([4], [4]), ([2, 5], [2, 5]), ([], []), ([7], [7]), ([8], [8]), ([6, 9], [6, 9]), ([10, 0, 1, 2, 3, 4, 5, 6, 7, 8, 9, 10], [10])])
def magnetoref04_Frame.B11 : List Nat := [0, 1, 3, 0, 8, 24, 63, 0, 128, 384, 1023, 2047]
theorem magnetoref04_Frame.tab11 : rtab .any (opsOf Try.f31 11) = magnetoref04_Frame.T11 := by kernel_rfl
theorem magnetoref04_Frame.bits11 : waitsOk magnetoref04_Frame.T11.2 magnetoref04_Frame.B11 = true := by kernel_rfl
set_option maxHeartbeats 8000000 in
set_option maxRecDepth 100000 in
theorem magnetoref04_Frame.calls (k : Nat) (A0 : Option Addr) (c0 : Nat) (l0 : List Int) (r1 : Int) (r2 : Bool) (r3 : Bool) (r4 : Int) (r5 : Int) (r6 : Int) (r7 : Int) (r8 : Int) (r9 : Int) (r10 : Int) (r11 : Int) (r12 : Int) (r13 : Int) (w : World) (hr0 : Kd.C (Kd.int .i64) w A0 l0.length l0) (hc0 : l0.length ≤ c0) (h : magnetoref04_Frame.f k l0 = some (r1, r2, r3, r4, r5, r6, r7, r8, r9, r10, r11, r12, r13)) :
  Calls Try.prog 31 #[.slice A0 l0.length c0] w fun e w' => e = .returned (.tuple #[.agg #[.int .i64 r1, .bool r2, .bool r3, .int .i64 r4, .int .u8 r5, .int .u8 r6, .int .u8 r7, .int .u8 r8, .int .u8 r9, .int .u8 r10, .int .u8 r11, .int .u8 r12], .int .i64 r13]) ∧ Below w.heap.size w w' := by
 have hu24 := Try.underlying24
 have HR0 := Aside0.mk hr0
 have HC0 := Aside0.mk hc0
 clear hr0 hc0
 have HB := Aside0.mk (Below.refl w.heap.size w)
 have H : ((magnetoref04_Ahead.f k l0).bind fun t539 => (if t539 < 0 then (magnetoref04_Frame.j0 k l0 true) else (magnetoref04_Frame.j0 k l0 (decide ((l0.length : Int) < t539))))) = some (r1, r2, r3, r4, r5, r6, r7, r8, r9, r10, r11, r12, r13) := h
 clear h
 replace H := Option.bind_eq_some_iff.mp H
 obtain ⟨t539, A20, H⟩ := H
 replace H : (if t539 < 0 then (magnetoref04_Frame.j0 k l0 true) else (magnetoref04_Frame.j0 k l0 (decide ((l0.length : Int) < t539)))) = some (r1, r2, r3, r4, r5, r6, r7, r8, r9, r10, r11, r12, r13) := H
 have A2 := Aside0.mk A20
 clear A20
 have HC3 := Aside0.mk H
 clear H
 go_enter Try.func31, Try.ntmps31
 go_upto_region 2 with (first | ((with_reducible refine gate_dst (N := 2) rfl ?_); (try (refine gate_guard (by rfl) ?_; dsimp only)); refine box_event ?hg (N := 2) ?hd (cs := #[.int .i64 0, .bool false, .bool false, .int .i64 0, .int .u8 0, .int .u8 0, .int .u8 0, .int .u8 0, .int .u8 0, .int .u8 0, .int .u8 0, .int .u8 0]) (t := 24) ?hr ?_; (case hd => rfl); (case hg => rfl); (case hr => first | (go_simp; done) | (go_simp; rfl)); intro gb538 hg w4 hbox hb; have n0_ := Aside0.mk (below_step (by repeat (first | (with_reducible first | exact HB.out | apply below_alloc | apply pw_below_drewN | apply below_drew1) | exact HB.out)) hb); have n1_ := Aside0.mk (hbox); have n2_ := Aside0.mk ((by rw [hg]; exact (below_size (by repeat (first | (with_reducible first | exact HB.out | apply below_alloc | apply pw_below_drewN | apply below_drew1) | exact HB.out))) : w.heap.size ≤ gb538)); have n3_ := Aside0.mk ((by rw [hg]; exact (below_size (by repeat (first | (with_reducible first | exact HB.out | apply below_alloc | apply pw_below_drewN | apply below_drew1) | exact HB.out))) : w.heap.size ≤ gb538)); clear HB; have HB := n0_; have BK538 := n1_; have GW538 := n2_; have GE538 := n3_; clear n0_ n1_ n2_ n3_; clear hb hbox hg) | ((with_reducible refine gate_callee (f := 26) rfl ?_); refine goesL_ (some 10) rfl rfl Try.func26 (by kernel_rfl) rfl #[.slice A0 l0.length c0] rfl (by (try simp only [List.map_toArray, List.map_cons, List.map_nil]); first | done | rfl | (simp only [List.length_drop, List.length_take]; rfl)) ?_; (with_reducible refine (magnetoref04_Ahead.calls k _ _ l0 t539 _ ?side1 ?side2 A2.out).mono ?_); (case side1 => repeat (first | exact (Kd.C_below HR0.out HB.out) | (with_reducible refine Kd.C_alloc ?_ _) | (with_reducible refine Kd.C_drewN ?_ _) | (with_reducible refine Kd.C_drew ?_))); (case side2 => exact HC0.out); rintro e w5 ⟨rfl, hb⟩; refine ⟨_, rfl, ?_⟩; have n0_ := Aside0.mk (blk_below (g := gb538) (o := .cells #[.int .i64 0, .bool false, .bool false, .int .i64 0, .int .u8 0, .int .u8 0, .int .u8 0, .int .u8 0, .int .u8 0, .int .u8 0, .int .u8 0, .int .u8 0] 24 (0, 0)) (by (with_reducible repeat (first | refine blk_drewN ?_ _ | refine blk_drew ?_ | refine blk_alloc ?_ _)); exact BK538.out) hb); have n1_ := Aside0.mk (below_step (by repeat (first | (with_reducible first | exact HB.out | apply below_alloc | apply pw_below_drewN | apply below_drew1 | refine below_set ?_ GE538.out) | exact HB.out)) hb); clear BK538; clear HB; have BK538 := n0_; have HB := n1_; clear n0_ n1_; (try clear hb); (try clear hb2); (try clear hk); (try clear hi)))
 (try simp only [Act.put, List.setIfInBounds_toArray, List.set_cons_zero, List.set_cons_succ])
 go_cut [18] (fun v18 wc => ∃ (kq : Nat) (x18_2 : Bool), v18 = .bool x18_2 ∧ Aside0 (magnetoref04_Frame.j0 kq l0 x18_2 = some (r1, r2, r3, r4, r5, r6, r7, r8, r9, r10, r11, r12, r13)) ∧ Aside0 (kq ≤ k) ∧ Aside0 (wc.heap[gb538]? = some (.cells #[.int .i64 0, .bool false, .bool false, .int .i64 0, .int .u8 0, .int .u8 0, .int .u8 0, .int .u8 0, .int .u8 0, .int .u8 0, .int .u8 0, .int .u8 0] 24 (0, 0))) ∧ Aside0 (Below w.heap.size w wc))
 case first =>
  have H := HC3.out
  clear HC3
  by_cases c6 : t539 < 0
  ·
   rw [if_pos c6] at H
   have c6b0 : decide (t539 < 0) = true := decide_eq_true c6
   clear c6
   (first | rw [c6b0] | (simp only [i64_w, i32_w]; rw [c6b0]) | skip)
   have H' := Aside0.mk H
   clear H
   go_wp2
   go_meet
   case rel => exact ⟨_, (true), (by first | rfl | (simp; done) | (simp [*]; done)), H', ⟨by first | omega | exact Nat.le_refl _⟩, ⟨by (with_reducible repeat (first | refine blk_drewN ?_ _ | refine blk_drew ?_ | refine blk_alloc ?_ _)); exact BK538.out⟩, ⟨by repeat (first | (with_reducible first | exact HB.out | apply below_alloc | apply pw_below_drewN | apply below_drew1 | refine below_set ?_ GE538.out) | exact HB.out)⟩⟩
  ·
   rw [if_neg c6] at H
   have c6b0 : decide (t539 < 0) = false := decide_eq_false c6
   clear c6
   (first | rw [c6b0] | (simp only [i64_w, i32_w]; rw [c6b0]) | skip)
   have H' := Aside0.mk H
   clear H
   go_wp2
   go_meet
   case rel => exact ⟨_, (decide ((l0.length : Int) < t539)), (by first | rfl | (simp; done) | (simp [*]; done)), H', ⟨by first | omega | exact Nat.le_refl _⟩, ⟨by (with_reducible repeat (first | refine blk_drewN ?_ _ | refine blk_drew ?_ | refine blk_alloc ?_ _)); exact BK538.out⟩, ⟨by repeat (first | (with_reducible first | exact HB.out | apply below_alloc | apply pw_below_drewN | apply below_drew1 | refine below_set ?_ GE538.out) | exact HB.out)⟩⟩
 case rest =>
  clear HC3
  try clear c2
  try clear p2
  try clear c3
  try clear c6
  try clear c6b0
  obtain ⟨kq, x18_2, rfl, HA, HJ2, BK538, HB⟩ := hcut
  cases kq with
  | zero => exact absurd HA.out (by simp [magnetoref04_Frame.j0])
  | succ kj2 =>
   have H := HA.out
   clear HA
   simp only [magnetoref04_Frame.j0] at H
   by_cases c7 : x18_2 = true
   ·
    subst c7
    have H1 : (some (0, false, false, 0, 0, 0, 0, 0, 0, 0, 0, 0, 13)) = some (r1, r2, r3, r4, r5, r6, r7, r8, r9, r10, r11, r12, r13) := by rw [if_pos rfl] at H; exact H
    clear H
    have H := H1
    clear H1
    simp only [Option.some.injEq, Prod.mk.injEq] at H
    obtain ⟨rfl, rfl, rfl, rfl, rfl, rfl, rfl, rfl, rfl, rfl, rfl, rfl, rfl⟩ := H
    have hcz8_0 : wc.cell? ⟨gb538, 0, none⟩ = some (.int .i64 0) := (blk_cell BK538.out 0).trans rfl
    have hcz8_1 : wc.cell? ⟨gb538, 1, none⟩ = some (.bool false) := (blk_cell BK538.out 1).trans rfl
    have hcz8_2 : wc.cell? ⟨gb538, 2, none⟩ = some (.bool false) := (blk_cell BK538.out 2).trans rfl
    have hcz8_3 : wc.cell? ⟨gb538, 3, none⟩ = some (.int .i64 0) := (blk_cell BK538.out 3).trans rfl
    have hcz8_4 : wc.cell? ⟨gb538, 4, none⟩ = some (.int .u8 0) := (blk_cell BK538.out 4).trans rfl
    have hcz8_5 : wc.cell? ⟨gb538, 5, none⟩ = some (.int .u8 0) := (blk_cell BK538.out 5).trans rfl
    have hcz8_6 : wc.cell? ⟨gb538, 6, none⟩ = some (.int .u8 0) := (blk_cell BK538.out 6).trans rfl
    have hcz8_7 : wc.cell? ⟨gb538, 7, none⟩ = some (.int .u8 0) := (blk_cell BK538.out 7).trans rfl
    have hcz8_8 : wc.cell? ⟨gb538, 8, none⟩ = some (.int .u8 0) := (blk_cell BK538.out 8).trans rfl
    have hcz8_9 : wc.cell? ⟨gb538, 9, none⟩ = some (.int .u8 0) := (blk_cell BK538.out 9).trans rfl
    have hcz8_10 : wc.cell? ⟨gb538, 10, none⟩ = some (.int .u8 0) := (blk_cell BK538.out 10).trans rfl
    have hcz8_11 : wc.cell? ⟨gb538, 11, none⟩ = some (.int .u8 0) := (blk_cell BK538.out 11).trans rfl
    have hfz8_0 := blk_frozen BK538.out 0
    have hfz8_1 := blk_frozen BK538.out 1
    have hfz8_2 := blk_frozen BK538.out 2
    have hfz8_3 := blk_frozen BK538.out 3
    have hfz8_4 := blk_frozen BK538.out 4
    have hfz8_5 := blk_frozen BK538.out 5
    have hfz8_6 := blk_frozen BK538.out 6
    have hfz8_7 := blk_frozen BK538.out 7
    have hfz8_8 := blk_frozen BK538.out 8
    have hfz8_9 := blk_frozen BK538.out 9
    have hfz8_10 := blk_frozen BK538.out 10
    have hfz8_11 := blk_frozen BK538.out 11
    go_wp2
    refine bodyPost_ret (results_ct rfl _ _ gb538 24 #[.int .i64 0, .bool false, .bool false, .int .i64 0, .int .u8 0, .int .u8 0, .int .u8 0, .int .u8 0, .int .u8 0, .int .u8 0, .int .u8 0, .int .u8 0] (0, 0) _ rfl (by (with_reducible repeat (first | refine blk_drewN ?_ _ | refine blk_drew ?_ | refine blk_alloc ?_ _)); refine blk_put (cs := #[.int .i64 0, .bool false, .bool false, .int .i64 0, .int .u8 0, .int .u8 0, .int .u8 0, .int .u8 0, .int .u8 0, .int .u8 0, .int .u8 0, .int .u8 0]) ?_ 11 _ rfl; (with_reducible repeat (first | refine blk_drewN ?_ _ | refine blk_drew ?_ | refine blk_alloc ?_ _)); refine blk_put (cs := #[.int .i64 0, .bool false, .bool false, .int .i64 0, .int .u8 0, .int .u8 0, .int .u8 0, .int .u8 0, .int .u8 0, .int .u8 0, .int .u8 0, .int .u8 0]) ?_ 10 _ rfl; (with_reducible repeat (first | refine blk_drewN ?_ _ | refine blk_drew ?_ | refine blk_alloc ?_ _)); refine blk_put (cs := #[.int .i64 0, .bool false, .bool false, .int .i64 0, .int .u8 0, .int .u8 0, .int .u8 0, .int .u8 0, .int .u8 0, .int .u8 0, .int .u8 0, .int .u8 0]) ?_ 9 _ rfl; (with_reducible repeat (first | refine blk_drewN ?_ _ | refine blk_drew ?_ | refine blk_alloc ?_ _)); refine blk_put (cs := #[.int .i64 0, .bool false, .bool false, .int .i64 0, .int .u8 0, .int .u8 0, .int .u8 0, .int .u8 0, .int .u8 0, .int .u8 0, .int .u8 0, .int .u8 0]) ?_ 8 _ rfl; (with_reducible repeat (first | refine blk_drewN ?_ _ | refine blk_drew ?_ | refine blk_alloc ?_ _)); refine blk_put (cs := #[.int .i64 0, .bool false, .bool false, .int .i64 0, .int .u8 0, .int .u8 0, .int .u8 0, .int .u8 0, .int .u8 0, .int .u8 0, .int .u8 0, .int .u8 0]) ?_ 7 _ rfl; (with_reducible repeat (first | refine blk_drewN ?_ _ | refine blk_drew ?_ | refine blk_alloc ?_ _)); refine blk_put (cs := #[.int .i64 0, .bool false, .bool false, .int .i64 0, .int .u8 0, .int .u8 0, .int .u8 0, .int .u8 0, .int .u8 0, .int .u8 0, .int .u8 0, .int .u8 0]) ?_ 6 _ rfl; (with_reducible repeat (first | refine blk_drewN ?_ _ | refine blk_drew ?_ | refine blk_alloc ?_ _)); refine blk_put (cs := #[.int .i64 0, .bool false, .bool false, .int .i64 0, .int .u8 0, .int .u8 0, .int .u8 0, .int .u8 0, .int .u8 0, .int .u8 0, .int .u8 0, .int .u8 0]) ?_ 5 _ rfl; (with_reducible repeat (first | refine blk_drewN ?_ _ | refine blk_drew ?_ | refine blk_alloc ?_ _)); refine blk_put (cs := #[.int .i64 0, .bool false, .bool false, .int .i64 0, .int .u8 0, .int .u8 0, .int .u8 0, .int .u8 0, .int .u8 0, .int .u8 0, .int .u8 0, .int .u8 0]) ?_ 4 _ rfl; (with_reducible repeat (first | refine blk_drewN ?_ _ | refine blk_drew ?_ | refine blk_alloc ?_ _)); refine blk_put (cs := #[.int .i64 0, .bool false, .bool false, .int .i64 0, .int .u8 0, .int .u8 0, .int .u8 0, .int .u8 0, .int .u8 0, .int .u8 0, .int .u8 0, .int .u8 0]) ?_ 3 _ rfl; (with_reducible repeat (first | refine blk_drewN ?_ _ | refine blk_drew ?_ | refine blk_alloc ?_ _)); refine blk_put (cs := #[.int .i64 0, .bool false, .bool false, .int .i64 0, .int .u8 0, .int .u8 0, .int .u8 0, .int .u8 0, .int .u8 0, .int .u8 0, .int .u8 0, .int .u8 0]) ?_ 2 _ rfl; (with_reducible repeat (first | refine blk_drewN ?_ _ | refine blk_drew ?_ | refine blk_alloc ?_ _)); refine blk_put (cs := #[.int .i64 0, .bool false, .bool false, .int .i64 0, .int .u8 0, .int .u8 0, .int .u8 0, .int .u8 0, .int .u8 0, .int .u8 0, .int .u8 0, .int .u8 0]) ?_ 1 _ rfl; (with_reducible repeat (first | refine blk_drewN ?_ _ | refine blk_drew ?_ | refine blk_alloc ?_ _)); refine blk_put (cs := #[.int .i64 0, .bool false, .bool false, .int .i64 0, .int .u8 0, .int .u8 0, .int .u8 0, .int .u8 0, .int .u8 0, .int .u8 0, .int .u8 0, .int .u8 0]) ?_ 0 _ rfl; (with_reducible repeat (first | refine blk_drewN ?_ _ | refine blk_drew ?_ | refine blk_alloc ?_ _)); exact BK538.out) Try.underlying24 rfl (by kernel_rfl)) rfl ?_
    exact ⟨by first | rfl | (simp [errW_none, errW_some] <;> rfl) | (simp [*, errW_none, errW_some] <;> rfl), by repeat (first | (with_reducible first | exact HB.out | apply below_alloc | apply pw_below_drewN | apply below_drew1 | refine below_set ?_ GE538.out) | exact HB.out)⟩
   ·
    replace c7 := Bool.eq_false_iff.mpr c7
    subst c7
    have H1 : (if 0 < (l0.length : Int) then (if (rd l0 0) = 0 then ((magnetoref04_Widths.f kj2 l0).bind fun t541 => (if 12 ≤ (l0.length : Int) then ((magnetoref04_Value.f kj2 ((l0.take 12).drop 1)).bind fun t545 => (if 13 < (l0.length : Int) then (if 12 < (l0.length : Int) then (if (rd l0 13) = 1 then (if 32 ≤ (l0.length : Int) then ((magnetoref04_Value.f kj2 ((l0.take 32).drop 14)).bind fun t550 => (if 32 < (l0.length : Int) then (magnetoref04_Frame.j1 kj2 l0 t541 (wrap64 ((wrap64 (262144 * t545)) + t550)) ((rd l0 13) == 1) ((rd l0 32) == 1) 0 0 0 0 0 0 0 0 0) else (none))) else (none)) else (magnetoref04_Frame.j1 kj2 l0 t541 t545 ((rd l0 13) == 1) ((rd l0 12) == 1) 0 0 0 0 0 0 0 0 0)) else (none)) else (none))) else (none))) else (some (0, false, false, 0, 0, 0, 0, 0, 0, 0, 0, 0, 11))) else (none)) = some (r1, r2, r3, r4, r5, r6, r7, r8, r9, r10, r11, r12, r13) := by rw [if_neg (show ¬ (false = true) by decide)] at H; exact H
    clear H
    have H := H1
    clear H1
    by_cases c9 : 0 < (l0.length : Int)
    ·
     rw [if_pos c9] at H
     have c9b0 : decide (0 < (l0.length : Int)) = true := decide_eq_true c9
     have c9b1 : decide (0 < l0.length) = true := decide_eq_true (by omega)
     clear c9
     by_cases c10 : (rd l0 0) = 0
     ·
      rw [if_pos c10] at H
      have c10b0 : ((rd l0 0) == 0) = true := beq_iff_eq.mpr c10
      have c10b1 : ((rd l0 0) != 0) = false := bne_eq_false_iff_eq.mpr c10
      clear c10
      replace H := Option.bind_eq_some_iff.mp H
      obtain ⟨t541, A110, H⟩ := H
      replace H : (if 12 ≤ (l0.length : Int) then ((magnetoref04_Value.f kj2 ((l0.take 12).drop 1)).bind fun t545 => (if 13 < (l0.length : Int) then (if 12 < (l0.length : Int) then (if (rd l0 13) = 1 then (if 32 ≤ (l0.length : Int) then ((magnetoref04_Value.f kj2 ((l0.take 32).drop 14)).bind fun t550 => (if 32 < (l0.length : Int) then (magnetoref04_Frame.j1 kj2 l0 t541 (wrap64 ((wrap64 (262144 * t545)) + t550)) ((rd l0 13) == 1) ((rd l0 32) == 1) 0 0 0 0 0 0 0 0 0) else (none))) else (none)) else (magnetoref04_Frame.j1 kj2 l0 t541 t545 ((rd l0 13) == 1) ((rd l0 12) == 1) 0 0 0 0 0 0 0 0 0)) else (none)) else (none))) else (none)) = some (r1, r2, r3, r4, r5, r6, r7, r8, r9, r10, r11, r12, r13) := H
      have A11 := Aside0.mk A110
      clear A110
      by_cases c12 : 12 ≤ (l0.length : Int)
      ·
       rw [if_pos c12] at H
       have c12b0 := eq_true c12
       have c12b1 : decide (12 ≤ (l0.length : Int)) = true := decide_eq_true c12
       clear c12
       replace H := Option.bind_eq_some_iff.mp H
       obtain ⟨t545, A130, H⟩ := H
       replace H : (if 13 < (l0.length : Int) then (if 12 < (l0.length : Int) then (if (rd l0 13) = 1 then (if 32 ≤ (l0.length : Int) then ((magnetoref04_Value.f kj2 ((l0.take 32).drop 14)).bind fun t550 => (if 32 < (l0.length : Int) then (magnetoref04_Frame.j1 kj2 l0 t541 (wrap64 ((wrap64 (262144 * t545)) + t550)) ((rd l0 13) == 1) ((rd l0 32) == 1) 0 0 0 0 0 0 0 0 0) else (none))) else (none)) else (magnetoref04_Frame.j1 kj2 l0 t541 t545 ((rd l0 13) == 1) ((rd l0 12) == 1) 0 0 0 0 0 0 0 0 0)) else (none)) else (none)) = some (r1, r2, r3, r4, r5, r6, r7, r8, r9, r10, r11, r12, r13) := H
       have A13 := Aside0.mk A130
       clear A130
       by_cases c14 : 13 < (l0.length : Int)
       ·
        rw [if_pos c14] at H
        have c14b0 : decide (13 < (l0.length : Int)) = true := decide_eq_true c14
        have c14b1 : decide (13 < l0.length) = true := decide_eq_true (by omega)
        clear c14
        by_cases c15 : 12 < (l0.length : Int)
        ·
         rw [if_pos c15] at H
         have c15b0 : decide (12 < (l0.length : Int)) = true := decide_eq_true c15
         have c15b1 : decide (12 < l0.length) = true := decide_eq_true (by omega)
         clear c15
         have HC16 := Aside0.mk H
         clear H
         have p540 : 0 ≤ (0 : Int) := (by omega)
         have q540 : 0 < (l0.length : Int) := of_decide_eq_true (by first | (with_reducible assumption) | assumption)
         obtain ⟨ad540, e540, hx540_0⟩ := Kd.at_int HR0.out 0 p540 q540
         cases e540
         have qi540 : (0 < l0.length) = True := eq_true (by omega)
         (try rw [show ((0 : Int)).toNat = 0 from rfl] at hx540_0)
         (try rw [Addr.add_zero'] at hx540_0)
         replace hx540_0 := (HB.out.cell (World.block_lt_of_cell? w _ hx540_0)).trans hx540_0
         replace p540 := eq_true p540
         replace q540 := eq_true q540
         try go_wp2_with (first | ((with_reducible refine gate_callee (f := 56) rfl ?_); refine goesL_ (some 26) rfl rfl Try.func56 (by kernel_rfl) rfl #[.slice (some ad540) l0.length c0] rfl (by (try simp only [List.map_toArray, List.map_cons, List.map_nil]); first | done | rfl | (simp only [List.length_drop, List.length_take]; rfl)) ?_; (with_reducible refine (magnetoref04_Widths.calls kj2 _ _ l0 t541 _ ?side1 ?side2 A11.out).mono ?_); (case side1 => repeat (first | exact (Kd.C_below HR0.out HB.out) | (with_reducible refine Kd.C_alloc ?_ _) | (with_reducible refine Kd.C_drewN ?_ _) | (with_reducible refine Kd.C_drew ?_))); (case side2 => exact HC0.out); rintro e w17 ⟨v542, rfl, ho0, hb⟩; refine ⟨_, rfl, ?_⟩; have n0_ := Aside0.mk (Kd.R_lower ho0 (below_size (by repeat (first | (with_reducible first | exact HB.out | apply below_alloc | apply pw_below_drewN | apply below_drew1 | refine below_set ?_ GE538.out) | exact HB.out)))); have n1_ := Aside0.mk (blk_below (g := gb538) (o := .cells #[.int .i64 0, .bool false, .bool false, .int .i64 0, .int .u8 0, .int .u8 0, .int .u8 0, .int .u8 0, .int .u8 0, .int .u8 0, .int .u8 0, .int .u8 0] 24 (0, 0)) (by (with_reducible repeat (first | refine blk_drewN ?_ _ | refine blk_drew ?_ | refine blk_alloc ?_ _)); exact BK538.out) hb); have n2_ := Aside0.mk (below_step (by repeat (first | (with_reducible first | exact HB.out | apply below_alloc | apply pw_below_drewN | apply below_drew1 | refine below_set ?_ GE538.out) | exact HB.out)) hb); clear BK538; clear HB; have HO543 := n0_; have BK538 := n1_; have HB := n2_; clear n0_ n1_ n2_; (try clear hb); (try clear hb2); (try clear hk); (try clear hi); (try clear ho0)))
         have n0_ := Aside0.mk (Kd.R_drew HO543.out)
         have n1_ := Aside0.mk (blk_drew BK538.out)
         have n2_ := Aside0.mk (below_drew1 HB.out)
         clear HO543
         clear BK538
         clear HB
         have HO543 := n0_
         have BK538 := n1_
         have HB := n2_
         clear n0_ n1_ n2_
         obtain ⟨i019, hi019, _, hsz19, _⟩ := info_parts info3
         obtain ⟨A19, hcut19, hA19, hC19⟩ := print_mid_of (P := Try.prog) (Value.int .i64) 0 25 3 .i64 .i64 Try.underlying25 hi019 hsz19 (some ad540) c0 l0 1 12 (by omega) (by first | omega | exact of_decide_eq_true (by first | (with_reducible assumption) | assumption)) (of_decide_eq_true (by first | (with_reducible assumption) | assumption)) HC0.out
         have HR544 := Aside0.mk (Kd.C_of_reads (h1 := fun _ => rfl) (hA19 _ (Kd.reads_of_C HR0.out)))
         have HC544 := Aside0.mk hC19
         clear hA19 hC19 hi019 hsz19
         have p546 : 0 ≤ (13 : Int) := (by omega)
         have q546 : 13 < (l0.length : Int) := of_decide_eq_true (by first | (with_reducible assumption) | assumption)
         obtain ⟨ad546, e546, hx546_0⟩ := Kd.at_int HR0.out 13 p546 q546
         have hw546_0 := hx546_0
         (try rw [show ((13 : Int)).toNat = 13 from rfl] at hw546_0)
         (try rw [show 13 * 1 = 13 from rfl] at hw546_0)
         (try simp only [Nat.reduceMul, Nat.reduceEqDiff, Go.Addr.add, ↓reduceIte] at hw546_0)
         obtain rfl : ad540 = ad546 := (by injection e546)
         (try simp only [show (13 : Int).toNat = 13 from rfl, Nat.reduceMul, Nat.reduceEqDiff, Go.Addr.add, ↓reduceIte] at hx546_0)
         have qi546 : (13 < l0.length) = True := eq_true (by omega)
         (try rw [show ((13 : Int)).toNat = 13 from rfl] at hx546_0)
         replace hx546_0 := (HB.out.cell (World.block_lt_of_cell? w _ hx546_0)).trans hx546_0
         replace p546 := eq_true p546
         replace q546 := eq_true q546
         have p547 : 0 ≤ (12 : Int) := (by omega)
         have q547 : 12 < (l0.length : Int) := of_decide_eq_true (by first | (with_reducible assumption) | assumption)
         obtain ⟨ad547, e547, hx547_0⟩ := Kd.at_int HR0.out 12 p547 q547
         have hw547_0 := hx547_0
         (try rw [show ((12 : Int)).toNat = 12 from rfl] at hw547_0)
         (try rw [show 12 * 1 = 12 from rfl] at hw547_0)
         (try simp only [Nat.reduceMul, Nat.reduceEqDiff, Go.Addr.add, ↓reduceIte] at hw547_0)
         obtain rfl : ad540 = ad547 := (by injection e547)
         (try simp only [show (12 : Int).toNat = 12 from rfl, Nat.reduceMul, Nat.reduceEqDiff, Go.Addr.add, ↓reduceIte] at hx547_0)
         have qi547 : (12 < l0.length) = True := eq_true (by omega)
         (try rw [show ((12 : Int)).toNat = 12 from rfl] at hx547_0)
         replace hx547_0 := (HB.out.cell (World.block_lt_of_cell? w _ hx547_0)).trans hx547_0
         replace p547 := eq_true p547
         replace q547 := eq_true q547
         refine start_ (n := 14) (S := fun w' => w'.cell? ⟨ad540.block, ad540.off + 13, none⟩ = some (.int .i64 (rd l0 13)) ∧ w'.cell? ⟨ad540.block, ad540.off + 12, none⟩ = some (.int .i64 (rd l0 12))) (ds := []) #[false, false, false, false, false, false, false, false, false, false, false, false, false, false] (by kernel_rfl) rfl rfl ⟨((HB.out.cell (World.block_lt_of_cell? w _ hw546_0)).trans hw546_0), ((HB.out.cell (World.block_lt_of_cell? w _ hw547_0)).trans hw547_0)⟩ (fun hHeld => ?_); refine with_tabW magnetoref04_Frame.tab7 magnetoref04_Frame.bits7 (fun HT_ HW_ => ?_)
         generalize w17.drew = w18 at HO543 BK538 HB HR544 hx546_0 hx547_0 hHeld ⊢
         refine pure_ (i := 0) (N := some 27) (v := ?_) (a' := ?_) #[true, false, false, false, false, false, false, false, false, false, false, false, false, false] rfl rfl (any_of HT_.out (by kernel_rfl)) (fun _ _ _ h => h) (Or.inl ⟨by rfl, ?_⟩) ?_ ?_
         rotate_left
         ·
          intro w'
          go_simp
          with_reducible rfl
         rotate_left
         ·
          simp only [Act.put, List.setIfInBounds_toArray, List.set_cons_zero, List.set_cons_succ, i64_w, i32_w]
          rfl
         refine pure_ (i := 1) (N := some 28) (v := ?_) (a' := ?_) #[true, true, false, false, false, false, false, false, false, false, false, false, false, false] rfl rfl (any_of HT_.out (by kernel_rfl)) (fun _ _ _ h => h) (Or.inl ⟨by rfl, ?_⟩) ?_ ?_
         rotate_left
         ·
          intro w'
          go_simp
          with_reducible rfl
         rotate_left
         ·
          simp only [Act.put, List.setIfInBounds_toArray, List.set_cons_zero, List.set_cons_succ, i64_w, i32_w]
          rfl
         refine pure_ (i := 3) (N := some 30) (v := ?_) (a' := ?_) #[true, true, false, true, false, false, false, false, false, false, false, false, false, false] rfl rfl (any_of HT_.out (by kernel_rfl)) (fun _ _ _ h => h) (Or.inl ⟨by rfl, ?_⟩) ?_ ?_
         rotate_left
         ·
          intro w'
          go_simp
          with_reducible rfl
         rotate_left
         ·
          simp only [Act.put, List.setIfInBounds_toArray, List.set_cons_zero, List.set_cons_succ, i64_w, i32_w]
          rfl
         refine pure_ (i := 4) (N := some 31) (v := ?_) (a' := ?_) #[true, true, false, true, true, false, false, false, false, false, false, false, false, false] rfl rfl (any_of HT_.out (by kernel_rfl)) (fun _ _ _ h => h) (Or.inl ⟨by rfl, ?_⟩) ?_ ?_
         rotate_left
         ·
          intro w'
          go_simp
          with_reducible rfl
         rotate_left
         ·
          simp only [Act.put, List.setIfInBounds_toArray, List.set_cons_zero, List.set_cons_succ, i64_w, i32_w]
          rfl
         refine pure_ (i := 7) (N := some 34) (v := ?_) (a' := ?_) #[true, true, false, true, true, false, false, true, false, false, false, false, false, false] rfl rfl (any_of HT_.out (by kernel_rfl)) (fun _ _ _ h => h) (Or.inl ⟨by rfl, ?_⟩) ?_ ?_
         rotate_left
         ·
          intro w'
          go_simp
          with_reducible rfl
         rotate_left
         ·
          simp only [Act.put, List.setIfInBounds_toArray, List.set_cons_zero, List.set_cons_succ, i64_w, i32_w]
          rfl
         refine pure_ (i := 8) (N := some 35) (v := ?_) (a' := ?_) #[true, true, false, true, true, false, false, true, true, false, false, false, false, false] rfl rfl (any_of HT_.out (by kernel_rfl)) (fun _ _ _ h => h) (Or.inl ⟨by rfl, ?_⟩) ?_ ?_
         rotate_left
         ·
          intro w'
          go_simp
          with_reducible rfl
         rotate_left
         ·
          simp only [Act.put, List.setIfInBounds_toArray, List.set_cons_zero, List.set_cons_succ, i64_w, i32_w]
          rfl
         refine take_ (i := 5) (N := some 32) (v := ?_) (a' := ?_) #[true, true, false, true, true, true, false, true, true, false, false, false, false, false] rfl rfl (take_ofW HT_.out HW_.out (by kernel_rfl)) (fun _ _ _ h => h) (Or.inl ⟨by rfl, ?_⟩) hHeld ?_ ?_
         rotate_left
         ·
          rintro w' ⟨s0, s1⟩
          go_simp
          with_reducible rfl
         rotate_left
         ·
          simp only [Act.put, List.setIfInBounds_toArray, List.set_cons_zero, List.set_cons_succ, i64_w, i32_w]
          rfl
         refine pure_ (i := 6) (N := some 33) (v := ?_) (a' := ?_) #[true, true, false, true, true, true, true, true, true, false, false, false, false, false] rfl rfl (any_of HT_.out (by kernel_rfl)) (fun _ _ _ h => h) (Or.inl ⟨by rfl, ?_⟩) ?_ ?_
         rotate_left
         ·
          intro w'
          go_simp
          with_reducible rfl
         rotate_left
         ·
          simp only [Act.put, List.setIfInBounds_toArray, List.set_cons_zero, List.set_cons_succ, i64_w, i32_w]
          rfl
         refine take_ (i := 9) (N := some 36) (v := ?_) (a' := ?_) #[true, true, false, true, true, true, true, true, true, true, false, false, false, false] rfl rfl (take_ofW HT_.out HW_.out (by kernel_rfl)) (fun _ _ _ h => h) (Or.inl ⟨by rfl, ?_⟩) hHeld ?_ ?_
         rotate_left
         ·
          rintro w' ⟨s0, s1⟩
          go_simp
          with_reducible rfl
         rotate_left
         ·
          simp only [Act.put, List.setIfInBounds_toArray, List.set_cons_zero, List.set_cons_succ, i64_w, i32_w]
          rfl
         refine pure_ (i := 10) (N := some 37) (v := ?_) (a' := ?_) #[true, true, false, true, true, true, true, true, true, true, true, false, false, false] rfl rfl (any_of HT_.out (by kernel_rfl)) (fun _ _ _ h => h) (Or.inl ⟨by rfl, ?_⟩) ?_ ?_
         rotate_left
         ·
          intro w'
          go_simp
          with_reducible rfl
         rotate_left
         ·
          simp only [Act.put, List.setIfInBounds_toArray, List.set_cons_zero, List.set_cons_succ, i64_w, i32_w]
          rfl
         refine join_ (σ := Nat) 1 #[true, true, true, true, true, true, true, true, true, true, true, true, true, false] (fun s_ => [(29, .int .i64 t545), (6, .pointer (some ⟨s_, 0, none⟩)), (38, .agg #[.int .i64 t545, .bool ((rd l0 13) == 1), .bool ((rd l0 12) == 1), .int .i64 0, .int .u8 0, .int .u8 0, .int .u8 0, .int .u8 0, .int .u8 0, .int .u8 0, .int .u8 0, .int .u8 0])]) (fun s_ w' => (w'.cell? ⟨ad540.block, ad540.off + 13, none⟩ = some (.int .i64 (rd l0 13)) ∧ w'.cell? ⟨ad540.block, ad540.off + 12, none⟩ = some (.int .i64 (rd l0 12))) ∧ (Kd.R (Kd.int .i64) 3 w' w.heap.size (fun _ => True) v542 t541) ∧ (w'.heap[gb538]? = some (.cells #[.int .i64 0, .bool false, .bool false, .int .i64 0, .int .u8 0, .int .u8 0, .int .u8 0, .int .u8 0, .int .u8 0, .int .u8 0, .int .u8 0, .int .u8 0] 24 (0, 0))) ∧ (w'.heap[s_]? = some (.cells #[.int .i64 0, .bool false, .bool false, .int .i64 0, .int .u8 0, .int .u8 0, .int .u8 0, .int .u8 0, .int .u8 0, .int .u8 0, .int .u8 0, .int .u8 0] 24 (0, 0))) ∧ (w.heap.size ≤ s_) ∧ (w.heap.size ≤ s_) ∧ (gb538 ≠ s_) ∧ (s_ ≠ gb538) ∧ (Below w.heap.size w w')) ?_ ?_
         rotate_left
         ·
          intro hCont
          refine two_ (i := 2) (j := 12) (Ni := some 29) (Nj := some 6) #[true, true, true, true, true, true, true, true, true, true, true, false, false, false] #[true, true, false, true, true, true, true, true, true, true, true, false, true, false] rfl rfl rfl rfl (two_of HT_.out (by kernel_rfl)) (by decide) (by decide) (fun K hK => ?_) (fun K hK => ?_)
          ·
           skip
           refine goes_ Try.func59 (by kernel_rfl) rfl #[.slice A19 ((l0.take 12).drop 1).length (c0 - 1)] (by rfl) rfl rfl (by (try simp only [List.map_toArray, List.map_cons, List.map_nil]); first | done | (rw [show ((l0.take 12).drop 1).length = (12 - 1) from (by rw [List.length_drop, List.length_take]; have h_ : (12 : Int) ≤ (l0.length : Int) := of_decide_eq_true (by first | (with_reducible assumption) | assumption); omega)] <;> rfl) | rfl | (simp only [List.length_drop, List.length_take]; rfl)) ?_
           with_reducible refine (magnetoref04_Value.calls kj2 _ _ ((l0.take 12).drop 1) t545 _ ?side1 ?side2 A13.out).mono ?_
           (case side1 => repeat (first | exact (Kd.C_below HR544.out HB.out) | (with_reducible refine Kd.C_alloc ?_ _) | (with_reducible refine Kd.C_drewN ?_ _) | (with_reducible refine Kd.C_drew ?_)))
           (case side2 => exact HC544.out)
           rintro e w' ⟨rfl, ⟨nd, rfl⟩⟩
           refine ⟨_, rfl, ?_⟩
           refine hK.out _ _ ⟨((HB.out.cell (World.block_lt_of_cell? w _ hw546_0)).trans hw546_0), ((HB.out.cell (World.block_lt_of_cell? w _ hw547_0)).trans hw547_0)⟩ (fun hHeld => ?_)
           clear hK K
           refine norm_ (a' := ?_) ?_ ?_
           rotate_left
           ·
            show Act.put _ (some 29) _ = _
            simp only [Act.put, List.setIfInBounds_toArray, List.set_cons_zero, List.set_cons_succ, i64_w, i32_w]
            rfl
           refine pure_ (i := 11) (N := some 38) (v := ?_) (a' := ?_) #[true, true, true, true, true, true, true, true, true, true, true, true, false, false] rfl rfl (any_of HT_.out (by kernel_rfl)) (fun _ _ _ h => h) (Or.inl ⟨by rfl, ?_⟩) ?_ ?_
           rotate_left
           ·
            intro w'
            go_simp
            with_reducible rfl
           rotate_left
           ·
            simp only [Act.put, List.setIfInBounds_toArray, List.set_cons_zero, List.set_cons_succ, i64_w, i32_w]
            rfl
           refine one_ (i := 12) (N := some 6) #[true, true, true, true, true, true, true, true, true, true, true, true, true, false] rfl rfl (one_of HT_.out (by kernel_rfl)) (by decide) (fun K hK => ?_)
           refine box_step ?hg (N := 6) ?hd (cs := #[.int .i64 0, .bool false, .bool false, .int .i64 0, .int .u8 0, .int .u8 0, .int .u8 0, .int .u8 0, .int .u8 0, .int .u8 0, .int .u8 0, .int .u8 0]) (t := 24) ?hr ?_; (case hd => rfl); (case hg => rfl); (case hr => first | (go_simp; done) | (go_simp; rfl))
           intro gb548 hg w20 hbox hb
           have n0_ := Aside0.mk (Kd.R_below (by (with_reducible repeat (first | apply Kd.R_alloc | apply Kd.R_drewN | apply Kd.R_drew)); exact HO543.out) hb)
           have n1_ := Aside0.mk (blk_below (g := gb538) (o := .cells #[.int .i64 0, .bool false, .bool false, .int .i64 0, .int .u8 0, .int .u8 0, .int .u8 0, .int .u8 0, .int .u8 0, .int .u8 0, .int .u8 0, .int .u8 0] 24 (0, 0)) (by (with_reducible repeat (first | refine blk_drewN ?_ _ | refine blk_drew ?_ | refine blk_alloc ?_ _)); exact BK538.out) hb)
           have n2_ := Aside0.mk (below_step (by repeat (first | (with_reducible first | exact HB.out | apply below_alloc | apply pw_below_drewN | apply below_drew1 | refine below_set ?_ GE538.out) | exact HB.out)) hb)
           have n3_ := Aside0.mk (hbox)
           have n4_ := Aside0.mk ((by rw [hg]; exact (below_size (by repeat (first | (with_reducible first | exact HB.out | apply below_alloc | apply pw_below_drewN | apply below_drew1 | refine below_set ?_ GE538.out) | exact HB.out))) : w.heap.size ≤ gb548))
           have n5_ := Aside0.mk ((by rw [hg]; exact (below_size (by repeat (first | (with_reducible first | exact HB.out | apply below_alloc | apply pw_below_drewN | apply below_drew1 | refine below_set ?_ GE538.out) | exact HB.out))) : w.heap.size ≤ gb548))
           have n6_ := Aside0.mk ((by rw [hg]; exact Nat.ne_of_lt (blk_lt (g := gb538) (o := .cells #[.int .i64 0, .bool false, .bool false, .int .i64 0, .int .u8 0, .int .u8 0, .int .u8 0, .int .u8 0, .int .u8 0, .int .u8 0, .int .u8 0, .int .u8 0] 24 (0, 0)) (by (with_reducible repeat (first | refine blk_drewN ?_ _ | refine blk_drew ?_ | refine blk_alloc ?_ _)); exact BK538.out)) : gb538 ≠ gb548))
           have n7_ := Aside0.mk ((by rw [hg]; exact Nat.ne_of_gt (blk_lt (g := gb538) (o := .cells #[.int .i64 0, .bool false, .bool false, .int .i64 0, .int .u8 0, .int .u8 0, .int .u8 0, .int .u8 0, .int .u8 0, .int .u8 0, .int .u8 0, .int .u8 0] 24 (0, 0)) (by (with_reducible repeat (first | refine blk_drewN ?_ _ | refine blk_drew ?_ | refine blk_alloc ?_ _)); exact BK538.out)) : gb548 ≠ gb538))
           clear HO543
           clear BK538
           clear HB
           have HO543 := n0_
           have BK538 := n1_
           have HB := n2_
           have BK548 := n3_
           have GW548 := n4_
           have GE548 := n5_
           have NB538_548 := n6_
           have NB548_538 := n7_
           clear n0_ n1_ n2_ n3_ n4_ n5_ n6_ n7_
           clear hb hbox hg
           refine hK.out _ _ ⟨((HB.out.cell (World.block_lt_of_cell? w _ hw546_0)).trans hw546_0), ((HB.out.cell (World.block_lt_of_cell? w _ hw547_0)).trans hw547_0)⟩ (fun hHeld => ?_)
           clear hK K
           refine norm_ (a' := ?_) ?_ ?_
           rotate_left
           ·
            show Act.put _ (some 6) _ = _
            simp only [Act.put, List.setIfInBounds_toArray, List.set_cons_zero, List.set_cons_succ, i64_w, i32_w]
            rfl
           exact norm_ (by simp only [putAll, Act.put, List.setIfInBounds_toArray, List.set_cons_zero, List.set_cons_succ]) (hCont (gb548) _ ⟨hHeld, (by (with_reducible repeat (first | apply Kd.R_alloc | apply Kd.R_drewN | apply Kd.R_drew)); exact HO543.out), (by (with_reducible repeat (first | refine blk_drewN ?_ _ | refine blk_drew ?_ | refine blk_alloc ?_ _)); exact BK538.out), (by (with_reducible repeat (first | refine blk_drewN ?_ _ | refine blk_drew ?_ | refine blk_alloc ?_ _)); exact BK548.out), GW548.out, GE548.out, NB538_548.out, NB548_538.out, (by repeat (first | (with_reducible first | exact HB.out | apply below_alloc | apply pw_below_drewN | apply below_drew1 | refine below_set ?_ GE538.out | refine below_set ?_ GE548.out) | exact HB.out))⟩)
          ·
           skip
           refine box_step ?hg (N := 6) ?hd (cs := #[.int .i64 0, .bool false, .bool false, .int .i64 0, .int .u8 0, .int .u8 0, .int .u8 0, .int .u8 0, .int .u8 0, .int .u8 0, .int .u8 0, .int .u8 0]) (t := 24) ?hr ?_; (case hd => rfl); (case hg => rfl); (case hr => first | (go_simp; done) | (go_simp; rfl))
           intro gb548 hg w20 hbox hb
           have n0_ := Aside0.mk (Kd.R_below (by (with_reducible repeat (first | apply Kd.R_alloc | apply Kd.R_drewN | apply Kd.R_drew)); exact HO543.out) hb)
           have n1_ := Aside0.mk (blk_below (g := gb538) (o := .cells #[.int .i64 0, .bool false, .bool false, .int .i64 0, .int .u8 0, .int .u8 0, .int .u8 0, .int .u8 0, .int .u8 0, .int .u8 0, .int .u8 0, .int .u8 0] 24 (0, 0)) (by (with_reducible repeat (first | refine blk_drewN ?_ _ | refine blk_drew ?_ | refine blk_alloc ?_ _)); exact BK538.out) hb)
           have n2_ := Aside0.mk (below_step (by repeat (first | (with_reducible first | exact HB.out | apply below_alloc | apply pw_below_drewN | apply below_drew1 | refine below_set ?_ GE538.out) | exact HB.out)) hb)
           have n3_ := Aside0.mk (hbox)
           have n4_ := Aside0.mk ((by rw [hg]; exact (below_size (by repeat (first | (with_reducible first | exact HB.out | apply below_alloc | apply pw_below_drewN | apply below_drew1 | refine below_set ?_ GE538.out) | exact HB.out))) : w.heap.size ≤ gb548))
           have n5_ := Aside0.mk ((by rw [hg]; exact (below_size (by repeat (first | (with_reducible first | exact HB.out | apply below_alloc | apply pw_below_drewN | apply below_drew1 | refine below_set ?_ GE538.out) | exact HB.out))) : w.heap.size ≤ gb548))
           have n6_ := Aside0.mk ((by rw [hg]; exact Nat.ne_of_lt (blk_lt (g := gb538) (o := .cells #[.int .i64 0, .bool false, .bool false, .int .i64 0, .int .u8 0, .int .u8 0, .int .u8 0, .int .u8 0, .int .u8 0, .int .u8 0, .int .u8 0, .int .u8 0] 24 (0, 0)) (by (with_reducible repeat (first | refine blk_drewN ?_ _ | refine blk_drew ?_ | refine blk_alloc ?_ _)); exact BK538.out)) : gb538 ≠ gb548))
           have n7_ := Aside0.mk ((by rw [hg]; exact Nat.ne_of_gt (blk_lt (g := gb538) (o := .cells #[.int .i64 0, .bool false, .bool false, .int .i64 0, .int .u8 0, .int .u8 0, .int .u8 0, .int .u8 0, .int .u8 0, .int .u8 0, .int .u8 0, .int .u8 0] 24 (0, 0)) (by (with_reducible repeat (first | refine blk_drewN ?_ _ | refine blk_drew ?_ | refine blk_alloc ?_ _)); exact BK538.out)) : gb548 ≠ gb538))
           clear HO543
           clear BK538
           clear HB
           have HO543 := n0_
           have BK538 := n1_
           have HB := n2_
           have BK548 := n3_
           have GW548 := n4_
           have GE548 := n5_
           have NB538_548 := n6_
           have NB548_538 := n7_
           clear n0_ n1_ n2_ n3_ n4_ n5_ n6_ n7_
           clear hb hbox hg
           refine hK.out _ _ ⟨((HB.out.cell (World.block_lt_of_cell? w _ hw546_0)).trans hw546_0), ((HB.out.cell (World.block_lt_of_cell? w _ hw547_0)).trans hw547_0)⟩ (fun hHeld => ?_)
           clear hK K
           refine norm_ (a' := ?_) ?_ ?_
           rotate_left
           ·
            show Act.put _ (some 6) _ = _
            simp only [Act.put, List.setIfInBounds_toArray, List.set_cons_zero, List.set_cons_succ, i64_w, i32_w]
            rfl
           refine one_ (i := 2) (N := some 29) #[true, true, true, true, true, true, true, true, true, true, true, false, true, false] rfl rfl (one_of HT_.out (by kernel_rfl)) (by decide) (fun K hK => ?_)
           refine goes_ Try.func59 (by kernel_rfl) rfl #[.slice A19 ((l0.take 12).drop 1).length (c0 - 1)] (by rfl) rfl rfl (by (try simp only [List.map_toArray, List.map_cons, List.map_nil]); first | done | (rw [show ((l0.take 12).drop 1).length = (12 - 1) from (by rw [List.length_drop, List.length_take]; have h_ : (12 : Int) ≤ (l0.length : Int) := of_decide_eq_true (by first | (with_reducible assumption) | assumption); omega)] <;> rfl) | rfl | (simp only [List.length_drop, List.length_take]; rfl)) ?_
           with_reducible refine (magnetoref04_Value.calls kj2 _ _ ((l0.take 12).drop 1) t545 _ ?side1 ?side2 A13.out).mono ?_
           (case side1 => repeat (first | exact (Kd.C_below HR544.out HB.out) | (with_reducible refine Kd.C_alloc ?_ _) | (with_reducible refine Kd.C_drewN ?_ _) | (with_reducible refine Kd.C_drew ?_)))
           (case side2 => exact HC544.out)
           rintro e w' ⟨rfl, ⟨nd, rfl⟩⟩
           refine ⟨_, rfl, ?_⟩
           refine hK.out _ _ ⟨((HB.out.cell (World.block_lt_of_cell? w _ hw546_0)).trans hw546_0), ((HB.out.cell (World.block_lt_of_cell? w _ hw547_0)).trans hw547_0)⟩ (fun hHeld => ?_)
           clear hK K
           refine norm_ (a' := ?_) ?_ ?_
           rotate_left
           ·
            show Act.put _ (some 29) _ = _
            simp only [Act.put, List.setIfInBounds_toArray, List.set_cons_zero, List.set_cons_succ, i64_w, i32_w]
            rfl
           refine pure_ (i := 11) (N := some 38) (v := ?_) (a' := ?_) #[true, true, true, true, true, true, true, true, true, true, true, true, true, false] rfl rfl (any_of HT_.out (by kernel_rfl)) (fun _ _ _ h => h) (Or.inl ⟨by rfl, ?_⟩) ?_ ?_
           rotate_left
           ·
            intro w'
            go_simp
            with_reducible rfl
           rotate_left
           ·
            simp only [Act.put, List.setIfInBounds_toArray, List.set_cons_zero, List.set_cons_succ, i64_w, i32_w]
            rfl
           exact norm_ (by simp only [putAll, Act.put, List.setIfInBounds_toArray, List.set_cons_zero, List.set_cons_succ]) (hCont (gb548) _ ⟨hHeld, (by (with_reducible repeat (first | apply Kd.R_alloc | apply Kd.R_drewN | apply Kd.R_drew)); exact HO543.out), (by (with_reducible repeat (first | refine blk_drewN ?_ _ | refine blk_drew ?_ | refine blk_alloc ?_ _)); exact BK538.out), (by (with_reducible repeat (first | refine blk_drewN ?_ _ | refine blk_drew ?_ | refine blk_alloc ?_ _)); exact BK548.out), GW548.out, GE548.out, NB538_548.out, NB548_538.out, (by repeat (first | (with_reducible first | exact HB.out | apply below_alloc | apply pw_below_drewN | apply below_drew1 | refine below_set ?_ GE538.out | refine below_set ?_ GE548.out) | exact HB.out))⟩)
         rintro gb548 w21 ⟨hS_, h0_, h1_, h2_, h3_, h4_, h5_, h6_, h7_⟩
         have n0_ : Aside0 (Kd.R (Kd.int .i64) 3 w21 w.heap.size (fun _ => True) v542 t541) := ⟨h0_⟩
         have n1_ : Aside0 (w21.heap[gb538]? = some (.cells #[.int .i64 0, .bool false, .bool false, .int .i64 0, .int .u8 0, .int .u8 0, .int .u8 0, .int .u8 0, .int .u8 0, .int .u8 0, .int .u8 0, .int .u8 0] 24 (0, 0))) := ⟨h1_⟩
         have n2_ : Aside0 (w21.heap[gb548]? = some (.cells #[.int .i64 0, .bool false, .bool false, .int .i64 0, .int .u8 0, .int .u8 0, .int .u8 0, .int .u8 0, .int .u8 0, .int .u8 0, .int .u8 0, .int .u8 0] 24 (0, 0))) := ⟨h2_⟩
         have n3_ : Aside0 (w.heap.size ≤ gb548) := ⟨h3_⟩
         have n4_ : Aside0 (w.heap.size ≤ gb548) := ⟨h4_⟩
         have n5_ : Aside0 (gb538 ≠ gb548) := ⟨h5_⟩
         have n6_ : Aside0 (gb548 ≠ gb538) := ⟨h6_⟩
         have n7_ : Aside0 (Below w.heap.size w w21) := ⟨h7_⟩
         clear HO543
         clear BK538
         clear HB
         clear h0_ h1_ h2_ h3_ h4_ h5_ h6_ h7_
         have HO543 := n0_
         have BK538 := n1_
         have BK548 := n2_
         have GW548 := n3_
         have GE548 := n4_
         have NB538_548 := n5_
         have NB548_538 := n6_
         have HB := n7_
         clear n0_ n1_ n2_ n3_ n4_ n5_ n6_ n7_
         have hHeld : w21.cell? ⟨ad540.block, ad540.off + 13, none⟩ = some (.int .i64 (rd l0 13)) ∧ w21.cell? ⟨ad540.block, ad540.off + 12, none⟩ = some (.int .i64 (rd l0 12)) := hS_
         refine norm_ (a' := ?_) ?_ ?_
         rotate_left
         ·
          simp only [putAll, Act.put, List.setIfInBounds_toArray, List.set_cons_zero, List.set_cons_succ]
          rfl
         refine one_ (i := 13) (N := none) #[true, true, true, true, true, true, true, true, true, true, true, true, true, true] rfl rfl (one_of HT_.out (by kernel_rfl)) (by decide) (fun K hK => ?_)
         have hs22 : w21.cell? ⟨gb548, 0, none⟩ = some (.int .i64 0) := (blk_cell BK548.out 0).trans rfl
         have hfs22 := blk_frozen BK548.out 0
         have hns22_0 := NB538_548.out
         have hms22_0 := NB548_538.out
         have hs23 : w21.cell? ⟨gb548, 1, none⟩ = some (.bool false) := (blk_cell BK548.out 1).trans rfl
         have hfs23 := blk_frozen BK548.out 1
         have hns23_0 := NB538_548.out
         have hms23_0 := NB548_538.out
         have hs24 : w21.cell? ⟨gb548, 2, none⟩ = some (.bool false) := (blk_cell BK548.out 2).trans rfl
         have hfs24 := blk_frozen BK548.out 2
         have hns24_0 := NB538_548.out
         have hms24_0 := NB548_538.out
         have hs25 : w21.cell? ⟨gb548, 3, none⟩ = some (.int .i64 0) := (blk_cell BK548.out 3).trans rfl
         have hfs25 := blk_frozen BK548.out 3
         have hns25_0 := NB538_548.out
         have hms25_0 := NB548_538.out
         have hs26 : w21.cell? ⟨gb548, 4, none⟩ = some (.int .u8 0) := (blk_cell BK548.out 4).trans rfl
         have hfs26 := blk_frozen BK548.out 4
         have hns26_0 := NB538_548.out
         have hms26_0 := NB548_538.out
         have hs27 : w21.cell? ⟨gb548, 5, none⟩ = some (.int .u8 0) := (blk_cell BK548.out 5).trans rfl
         have hfs27 := blk_frozen BK548.out 5
         have hns27_0 := NB538_548.out
         have hms27_0 := NB548_538.out
         have hs28 : w21.cell? ⟨gb548, 6, none⟩ = some (.int .u8 0) := (blk_cell BK548.out 6).trans rfl
         have hfs28 := blk_frozen BK548.out 6
         have hns28_0 := NB538_548.out
         have hms28_0 := NB548_538.out
         have hs29 : w21.cell? ⟨gb548, 7, none⟩ = some (.int .u8 0) := (blk_cell BK548.out 7).trans rfl
         have hfs29 := blk_frozen BK548.out 7
         have hns29_0 := NB538_548.out
         have hms29_0 := NB548_538.out
         have hs30 : w21.cell? ⟨gb548, 8, none⟩ = some (.int .u8 0) := (blk_cell BK548.out 8).trans rfl
         have hfs30 := blk_frozen BK548.out 8
         have hns30_0 := NB538_548.out
         have hms30_0 := NB548_538.out
         have hs31 : w21.cell? ⟨gb548, 9, none⟩ = some (.int .u8 0) := (blk_cell BK548.out 9).trans rfl
         have hfs31 := blk_frozen BK548.out 9
         have hns31_0 := NB538_548.out
         have hms31_0 := NB548_538.out
         have hs32 : w21.cell? ⟨gb548, 10, none⟩ = some (.int .u8 0) := (blk_cell BK548.out 10).trans rfl
         have hfs32 := blk_frozen BK548.out 10
         have hns32_0 := NB538_548.out
         have hms32_0 := NB548_538.out
         have hs33 : w21.cell? ⟨gb548, 11, none⟩ = some (.int .u8 0) := (blk_cell BK548.out 11).trans rfl
         have hfs33 := blk_frozen BK548.out 11
         have hns33_0 := NB538_548.out
         have hms33_0 := NB548_538.out
         refine skip_ (w1 := ?_) (by rfl) rfl ?_ ?_
         rotate_left
         ·
          go_simp
          rfl
         refine hK.out _ _ ⟨((cell_far (p := ⟨gb548, _, none⟩) (by first | exact Nat.ne_of_lt (Nat.lt_of_lt_of_le (by have := World.block_lt_of_cell? _ _ hw546_0; first | rwa [add_block] at this | exact this) GW548.out) | (rw [add_block]; exact Nat.ne_of_lt (Nat.lt_of_lt_of_le (by have := World.block_lt_of_cell? _ _ hw546_0; first | rwa [add_block] at this | exact this) GW548.out)) | (show (Addr.add _ _).block ≠ _; rw [add_block]; exact Nat.ne_of_lt (Nat.lt_of_lt_of_le (by have := World.block_lt_of_cell? _ _ hw546_0; first | rwa [add_block] at this | exact this) GW548.out)) | (dsimp only; exact Nat.ne_of_lt (Nat.lt_of_lt_of_le (by have := World.block_lt_of_cell? _ _ hw546_0; first | rwa [add_block] at this | exact this) GW548.out))) _).trans (((cell_far (p := ⟨gb548, _, none⟩) (by first | exact Nat.ne_of_lt (Nat.lt_of_lt_of_le (by have := World.block_lt_of_cell? _ _ hw546_0; first | rwa [add_block] at this | exact this) GW548.out) | (rw [add_block]; exact Nat.ne_of_lt (Nat.lt_of_lt_of_le (by have := World.block_lt_of_cell? _ _ hw546_0; first | rwa [add_block] at this | exact this) GW548.out)) | (show (Addr.add _ _).block ≠ _; rw [add_block]; exact Nat.ne_of_lt (Nat.lt_of_lt_of_le (by have := World.block_lt_of_cell? _ _ hw546_0; first | rwa [add_block] at this | exact this) GW548.out)) | (dsimp only; exact Nat.ne_of_lt (Nat.lt_of_lt_of_le (by have := World.block_lt_of_cell? _ _ hw546_0; first | rwa [add_block] at this | exact this) GW548.out))) _).trans (((cell_far (p := ⟨gb548, _, none⟩) (by first | exact Nat.ne_of_lt (Nat.lt_of_lt_of_le (by have := World.block_lt_of_cell? _ _ hw546_0; first | rwa [add_block] at this | exact this) GW548.out) | (rw [add_block]; exact Nat.ne_of_lt (Nat.lt_of_lt_of_le (by have := World.block_lt_of_cell? _ _ hw546_0; first | rwa [add_block] at this | exact this) GW548.out)) | (show (Addr.add _ _).block ≠ _; rw [add_block]; exact Nat.ne_of_lt (Nat.lt_of_lt_of_le (by have := World.block_lt_of_cell? _ _ hw546_0; first | rwa [add_block] at this | exact this) GW548.out)) | (dsimp only; exact Nat.ne_of_lt (Nat.lt_of_lt_of_le (by have := World.block_lt_of_cell? _ _ hw546_0; first | rwa [add_block] at this | exact this) GW548.out))) _).trans (((cell_far (p := ⟨gb548, _, none⟩) (by first | exact Nat.ne_of_lt (Nat.lt_of_lt_of_le (by have := World.block_lt_of_cell? _ _ hw546_0; first | rwa [add_block] at this | exact this) GW548.out) | (rw [add_block]; exact Nat.ne_of_lt (Nat.lt_of_lt_of_le (by have := World.block_lt_of_cell? _ _ hw546_0; first | rwa [add_block] at this | exact this) GW548.out)) | (show (Addr.add _ _).block ≠ _; rw [add_block]; exact Nat.ne_of_lt (Nat.lt_of_lt_of_le (by have := World.block_lt_of_cell? _ _ hw546_0; first | rwa [add_block] at this | exact this) GW548.out)) | (dsimp only; exact Nat.ne_of_lt (Nat.lt_of_lt_of_le (by have := World.block_lt_of_cell? _ _ hw546_0; first | rwa [add_block] at this | exact this) GW548.out))) _).trans (((cell_far (p := ⟨gb548, _, none⟩) (by first | exact Nat.ne_of_lt (Nat.lt_of_lt_of_le (by have := World.block_lt_of_cell? _ _ hw546_0; first | rwa [add_block] at this | exact this) GW548.out) | (rw [add_block]; exact Nat.ne_of_lt (Nat.lt_of_lt_of_le (by have := World.block_lt_of_cell? _ _ hw546_0; first | rwa [add_block] at this | exact this) GW548.out)) | (show (Addr.add _ _).block ≠ _; rw [add_block]; exact Nat.ne_of_lt (Nat.lt_of_lt_of_le (by have := World.block_lt_of_cell? _ _ hw546_0; first | rwa [add_block] at this | exact this) GW548.out)) | (dsimp only; exact Nat.ne_of_lt (Nat.lt_of_lt_of_le (by have := World.block_lt_of_cell? _ _ hw546_0; first | rwa [add_block] at this | exact this) GW548.out))) _).trans (((cell_far (p := ⟨gb548, _, none⟩) (by first | exact Nat.ne_of_lt (Nat.lt_of_lt_of_le (by have := World.block_lt_of_cell? _ _ hw546_0; first | rwa [add_block] at this | exact this) GW548.out) | (rw [add_block]; exact Nat.ne_of_lt (Nat.lt_of_lt_of_le (by have := World.block_lt_of_cell? _ _ hw546_0; first | rwa [add_block] at this | exact this) GW548.out)) | (show (Addr.add _ _).block ≠ _; rw [add_block]; exact Nat.ne_of_lt (Nat.lt_of_lt_of_le (by have := World.block_lt_of_cell? _ _ hw546_0; first | rwa [add_block] at this | exact this) GW548.out)) | (dsimp only; exact Nat.ne_of_lt (Nat.lt_of_lt_of_le (by have := World.block_lt_of_cell? _ _ hw546_0; first | rwa [add_block] at this | exact this) GW548.out))) _).trans (((cell_far (p := ⟨gb548, _, none⟩) (by first | exact Nat.ne_of_lt (Nat.lt_of_lt_of_le (by have := World.block_lt_of_cell? _ _ hw546_0; first | rwa [add_block] at this | exact this) GW548.out) | (rw [add_block]; exact Nat.ne_of_lt (Nat.lt_of_lt_of_le (by have := World.block_lt_of_cell? _ _ hw546_0; first | rwa [add_block] at this | exact this) GW548.out)) | (show (Addr.add _ _).block ≠ _; rw [add_block]; exact Nat.ne_of_lt (Nat.lt_of_lt_of_le (by have := World.block_lt_of_cell? _ _ hw546_0; first | rwa [add_block] at this | exact this) GW548.out)) | (dsimp only; exact Nat.ne_of_lt (Nat.lt_of_lt_of_le (by have := World.block_lt_of_cell? _ _ hw546_0; first | rwa [add_block] at this | exact this) GW548.out))) _).trans (((cell_far (p := ⟨gb548, _, none⟩) (by first | exact Nat.ne_of_lt (Nat.lt_of_lt_of_le (by have := World.block_lt_of_cell? _ _ hw546_0; first | rwa [add_block] at this | exact this) GW548.out) | (rw [add_block]; exact Nat.ne_of_lt (Nat.lt_of_lt_of_le (by have := World.block_lt_of_cell? _ _ hw546_0; first | rwa [add_block] at this | exact this) GW548.out)) | (show (Addr.add _ _).block ≠ _; rw [add_block]; exact Nat.ne_of_lt (Nat.lt_of_lt_of_le (by have := World.block_lt_of_cell? _ _ hw546_0; first | rwa [add_block] at this | exact this) GW548.out)) | (dsimp only; exact Nat.ne_of_lt (Nat.lt_of_lt_of_le (by have := World.block_lt_of_cell? _ _ hw546_0; first | rwa [add_block] at this | exact this) GW548.out))) _).trans (((cell_far (p := ⟨gb548, _, none⟩) (by first | exact Nat.ne_of_lt (Nat.lt_of_lt_of_le (by have := World.block_lt_of_cell? _ _ hw546_0; first | rwa [add_block] at this | exact this) GW548.out) | (rw [add_block]; exact Nat.ne_of_lt (Nat.lt_of_lt_of_le (by have := World.block_lt_of_cell? _ _ hw546_0; first | rwa [add_block] at this | exact this) GW548.out)) | (show (Addr.add _ _).block ≠ _; rw [add_block]; exact Nat.ne_of_lt (Nat.lt_of_lt_of_le (by have := World.block_lt_of_cell? _ _ hw546_0; first | rwa [add_block] at this | exact this) GW548.out)) | (dsimp only; exact Nat.ne_of_lt (Nat.lt_of_lt_of_le (by have := World.block_lt_of_cell? _ _ hw546_0; first | rwa [add_block] at this | exact this) GW548.out))) _).trans (((cell_far (p := ⟨gb548, _, none⟩) (by first | exact Nat.ne_of_lt (Nat.lt_of_lt_of_le (by have := World.block_lt_of_cell? _ _ hw546_0; first | rwa [add_block] at this | exact this) GW548.out) | (rw [add_block]; exact Nat.ne_of_lt (Nat.lt_of_lt_of_le (by have := World.block_lt_of_cell? _ _ hw546_0; first | rwa [add_block] at this | exact this) GW548.out)) | (show (Addr.add _ _).block ≠ _; rw [add_block]; exact Nat.ne_of_lt (Nat.lt_of_lt_of_le (by have := World.block_lt_of_cell? _ _ hw546_0; first | rwa [add_block] at this | exact this) GW548.out)) | (dsimp only; exact Nat.ne_of_lt (Nat.lt_of_lt_of_le (by have := World.block_lt_of_cell? _ _ hw546_0; first | rwa [add_block] at this | exact this) GW548.out))) _).trans (((cell_far (p := ⟨gb548, _, none⟩) (by first | exact Nat.ne_of_lt (Nat.lt_of_lt_of_le (by have := World.block_lt_of_cell? _ _ hw546_0; first | rwa [add_block] at this | exact this) GW548.out) | (rw [add_block]; exact Nat.ne_of_lt (Nat.lt_of_lt_of_le (by have := World.block_lt_of_cell? _ _ hw546_0; first | rwa [add_block] at this | exact this) GW548.out)) | (show (Addr.add _ _).block ≠ _; rw [add_block]; exact Nat.ne_of_lt (Nat.lt_of_lt_of_le (by have := World.block_lt_of_cell? _ _ hw546_0; first | rwa [add_block] at this | exact this) GW548.out)) | (dsimp only; exact Nat.ne_of_lt (Nat.lt_of_lt_of_le (by have := World.block_lt_of_cell? _ _ hw546_0; first | rwa [add_block] at this | exact this) GW548.out))) _).trans (((cell_far (p := ⟨gb548, _, none⟩) (by first | exact Nat.ne_of_lt (Nat.lt_of_lt_of_le (by have := World.block_lt_of_cell? _ _ hw546_0; first | rwa [add_block] at this | exact this) GW548.out) | (rw [add_block]; exact Nat.ne_of_lt (Nat.lt_of_lt_of_le (by have := World.block_lt_of_cell? _ _ hw546_0; first | rwa [add_block] at this | exact this) GW548.out)) | (show (Addr.add _ _).block ≠ _; rw [add_block]; exact Nat.ne_of_lt (Nat.lt_of_lt_of_le (by have := World.block_lt_of_cell? _ _ hw546_0; first | rwa [add_block] at this | exact this) GW548.out)) | (dsimp only; exact Nat.ne_of_lt (Nat.lt_of_lt_of_le (by have := World.block_lt_of_cell? _ _ hw546_0; first | rwa [add_block] at this | exact this) GW548.out))) _).trans (hHeld.1)))))))))))))))))))))))), ((cell_far (p := ⟨gb548, _, none⟩) (by first | exact Nat.ne_of_lt (Nat.lt_of_lt_of_le (by have := World.block_lt_of_cell? _ _ hw547_0; first | rwa [add_block] at this | exact this) GW548.out) | (rw [add_block]; exact Nat.ne_of_lt (Nat.lt_of_lt_of_le (by have := World.block_lt_of_cell? _ _ hw547_0; first | rwa [add_block] at this | exact this) GW548.out)) | (show (Addr.add _ _).block ≠ _; rw [add_block]; exact Nat.ne_of_lt (Nat.lt_of_lt_of_le (by have := World.block_lt_of_cell? _ _ hw547_0; first | rwa [add_block] at this | exact this) GW548.out)) | (dsimp only; exact Nat.ne_of_lt (Nat.lt_of_lt_of_le (by have := World.block_lt_of_cell? _ _ hw547_0; first | rwa [add_block] at this | exact this) GW548.out))) _).trans (((cell_far (p := ⟨gb548, _, none⟩) (by first | exact Nat.ne_of_lt (Nat.lt_of_lt_of_le (by have := World.block_lt_of_cell? _ _ hw547_0; first | rwa [add_block] at this | exact this) GW548.out) | (rw [add_block]; exact Nat.ne_of_lt (Nat.lt_of_lt_of_le (by have := World.block_lt_of_cell? _ _ hw547_0; first | rwa [add_block] at this | exact this) GW548.out)) | (show (Addr.add _ _).block ≠ _; rw [add_block]; exact Nat.ne_of_lt (Nat.lt_of_lt_of_le (by have := World.block_lt_of_cell? _ _ hw547_0; first | rwa [add_block] at this | exact this) GW548.out)) | (dsimp only; exact Nat.ne_of_lt (Nat.lt_of_lt_of_le (by have := World.block_lt_of_cell? _ _ hw547_0; first | rwa [add_block] at this | exact this) GW548.out))) _).trans (((cell_far (p := ⟨gb548, _, none⟩) (by first | exact Nat.ne_of_lt (Nat.lt_of_lt_of_le (by have := World.block_lt_of_cell? _ _ hw547_0; first | rwa [add_block] at this | exact this) GW548.out) | (rw [add_block]; exact Nat.ne_of_lt (Nat.lt_of_lt_of_le (by have := World.block_lt_of_cell? _ _ hw547_0; first | rwa [add_block] at this | exact this) GW548.out)) | (show (Addr.add _ _).block ≠ _; rw [add_block]; exact Nat.ne_of_lt (Nat.lt_of_lt_of_le (by have := World.block_lt_of_cell? _ _ hw547_0; first | rwa [add_block] at this | exact this) GW548.out)) | (dsimp only; exact Nat.ne_of_lt (Nat.lt_of_lt_of_le (by have := World.block_lt_of_cell? _ _ hw547_0; first | rwa [add_block] at this | exact this) GW548.out))) _).trans (((cell_far (p := ⟨gb548, _, none⟩) (by first | exact Nat.ne_of_lt (Nat.lt_of_lt_of_le (by have := World.block_lt_of_cell? _ _ hw547_0; first | rwa [add_block] at this | exact this) GW548.out) | (rw [add_block]; exact Nat.ne_of_lt (Nat.lt_of_lt_of_le (by have := World.block_lt_of_cell? _ _ hw547_0; first | rwa [add_block] at this | exact this) GW548.out)) | (show (Addr.add _ _).block ≠ _; rw [add_block]; exact Nat.ne_of_lt (Nat.lt_of_lt_of_le (by have := World.block_lt_of_cell? _ _ hw547_0; first | rwa [add_block] at this | exact this) GW548.out)) | (dsimp only; exact Nat.ne_of_lt (Nat.lt_of_lt_of_le (by have := World.block_lt_of_cell? _ _ hw547_0; first | rwa [add_block] at this | exact this) GW548.out))) _).trans (((cell_far (p := ⟨gb548, _, none⟩) (by first | exact Nat.ne_of_lt (Nat.lt_of_lt_of_le (by have := World.block_lt_of_cell? _ _ hw547_0; first | rwa [add_block] at this | exact this) GW548.out) | (rw [add_block]; exact Nat.ne_of_lt (Nat.lt_of_lt_of_le (by have := World.block_lt_of_cell? _ _ hw547_0; first | rwa [add_block] at this | exact this) GW548.out)) | (show (Addr.add _ _).block ≠ _; rw [add_block]; exact Nat.ne_of_lt (Nat.lt_of_lt_of_le (by have := World.block_lt_of_cell? _ _ hw547_0; first | rwa [add_block] at this | exact this) GW548.out)) | (dsimp only; exact Nat.ne_of_lt (Nat.lt_of_lt_of_le (by have := World.block_lt_of_cell? _ _ hw547_0; first | rwa [add_block] at this | exact this) GW548.out))) _).trans (((cell_far (p := ⟨gb548, _, none⟩) (by first | exact Nat.ne_of_lt (Nat.lt_of_lt_of_le (by have := World.block_lt_of_cell? _ _ hw547_0; first | rwa [add_block] at this | exact this) GW548.out) | (rw [add_block]; exact Nat.ne_of_lt (Nat.lt_of_lt_of_le (by have := World.block_lt_of_cell? _ _ hw547_0; first | rwa [add_block] at this | exact this) GW548.out)) | (show (Addr.add _ _).block ≠ _; rw [add_block]; exact Nat.ne_of_lt (Nat.lt_of_lt_of_le (by have := World.block_lt_of_cell? _ _ hw547_0; first | rwa [add_block] at this | exact this) GW548.out)) | (dsimp only; exact Nat.ne_of_lt (Nat.lt_of_lt_of_le (by have := World.block_lt_of_cell? _ _ hw547_0; first | rwa [add_block] at this | exact this) GW548.out))) _).trans (((cell_far (p := ⟨gb548, _, none⟩) (by first | exact Nat.ne_of_lt (Nat.lt_of_lt_of_le (by have := World.block_lt_of_cell? _ _ hw547_0; first | rwa [add_block] at this | exact this) GW548.out) | (rw [add_block]; exact Nat.ne_of_lt (Nat.lt_of_lt_of_le (by have := World.block_lt_of_cell? _ _ hw547_0; first | rwa [add_block] at this | exact this) GW548.out)) | (show (Addr.add _ _).block ≠ _; rw [add_block]; exact Nat.ne_of_lt (Nat.lt_of_lt_of_le (by have := World.block_lt_of_cell? _ _ hw547_0; first | rwa [add_block] at this | exact this) GW548.out)) | (dsimp only; exact Nat.ne_of_lt (Nat.lt_of_lt_of_le (by have := World.block_lt_of_cell? _ _ hw547_0; first | rwa [add_block] at this | exact this) GW548.out))) _).trans (((cell_far (p := ⟨gb548, _, none⟩) (by first | exact Nat.ne_of_lt (Nat.lt_of_lt_of_le (by have := World.block_lt_of_cell? _ _ hw547_0; first | rwa [add_block] at this | exact this) GW548.out) | (rw [add_block]; exact Nat.ne_of_lt (Nat.lt_of_lt_of_le (by have := World.block_lt_of_cell? _ _ hw547_0; first | rwa [add_block] at this | exact this) GW548.out)) | (show (Addr.add _ _).block ≠ _; rw [add_block]; exact Nat.ne_of_lt (Nat.lt_of_lt_of_le (by have := World.block_lt_of_cell? _ _ hw547_0; first | rwa [add_block] at this | exact this) GW548.out)) | (dsimp only; exact Nat.ne_of_lt (Nat.lt_of_lt_of_le (by have := World.block_lt_of_cell? _ _ hw547_0; first | rwa [add_block] at this | exact this) GW548.out))) _).trans (((cell_far (p := ⟨gb548, _, none⟩) (by first | exact Nat.ne_of_lt (Nat.lt_of_lt_of_le (by have := World.block_lt_of_cell? _ _ hw547_0; first | rwa [add_block] at this | exact this) GW548.out) | (rw [add_block]; exact Nat.ne_of_lt (Nat.lt_of_lt_of_le (by have := World.block_lt_of_cell? _ _ hw547_0; first | rwa [add_block] at this | exact this) GW548.out)) | (show (Addr.add _ _).block ≠ _; rw [add_block]; exact Nat.ne_of_lt (Nat.lt_of_lt_of_le (by have := World.block_lt_of_cell? _ _ hw547_0; first | rwa [add_block] at this | exact this) GW548.out)) | (dsimp only; exact Nat.ne_of_lt (Nat.lt_of_lt_of_le (by have := World.block_lt_of_cell? _ _ hw547_0; first | rwa [add_block] at this | exact this) GW548.out))) _).trans (((cell_far (p := ⟨gb548, _, none⟩) (by first | exact Nat.ne_of_lt (Nat.lt_of_lt_of_le (by have := World.block_lt_of_cell? _ _ hw547_0; first | rwa [add_block] at this | exact this) GW548.out) | (rw [add_block]; exact Nat.ne_of_lt (Nat.lt_of_lt_of_le (by have := World.block_lt_of_cell? _ _ hw547_0; first | rwa [add_block] at this | exact this) GW548.out)) | (show (Addr.add _ _).block ≠ _; rw [add_block]; exact Nat.ne_of_lt (Nat.lt_of_lt_of_le (by have := World.block_lt_of_cell? _ _ hw547_0; first | rwa [add_block] at this | exact this) GW548.out)) | (dsimp only; exact Nat.ne_of_lt (Nat.lt_of_lt_of_le (by have := World.block_lt_of_cell? _ _ hw547_0; first | rwa [add_block] at this | exact this) GW548.out))) _).trans (((cell_far (p := ⟨gb548, _, none⟩) (by first | exact Nat.ne_of_lt (Nat.lt_of_lt_of_le (by have := World.block_lt_of_cell? _ _ hw547_0; first | rwa [add_block] at this | exact this) GW548.out) | (rw [add_block]; exact Nat.ne_of_lt (Nat.lt_of_lt_of_le (by have := World.block_lt_of_cell? _ _ hw547_0; first | rwa [add_block] at this | exact this) GW548.out)) | (show (Addr.add _ _).block ≠ _; rw [add_block]; exact Nat.ne_of_lt (Nat.lt_of_lt_of_le (by have := World.block_lt_of_cell? _ _ hw547_0; first | rwa [add_block] at this | exact this) GW548.out)) | (dsimp only; exact Nat.ne_of_lt (Nat.lt_of_lt_of_le (by have := World.block_lt_of_cell? _ _ hw547_0; first | rwa [add_block] at this | exact this) GW548.out))) _).trans (((cell_far (p := ⟨gb548, _, none⟩) (by first | exact Nat.ne_of_lt (Nat.lt_of_lt_of_le (by have := World.block_lt_of_cell? _ _ hw547_0; first | rwa [add_block] at this | exact this) GW548.out) | (rw [add_block]; exact Nat.ne_of_lt (Nat.lt_of_lt_of_le (by have := World.block_lt_of_cell? _ _ hw547_0; first | rwa [add_block] at this | exact this) GW548.out)) | (show (Addr.add _ _).block ≠ _; rw [add_block]; exact Nat.ne_of_lt (Nat.lt_of_lt_of_le (by have := World.block_lt_of_cell? _ _ hw547_0; first | rwa [add_block] at this | exact this) GW548.out)) | (dsimp only; exact Nat.ne_of_lt (Nat.lt_of_lt_of_le (by have := World.block_lt_of_cell? _ _ hw547_0; first | rwa [add_block] at this | exact this) GW548.out))) _).trans (hHeld.2))))))))))))))))))))))))⟩ (fun hHeld => ?_)
         clear hK K
         refine done_ (done_of HT_.out (by kernel_rfl)) ?_
         have n0_ : Aside0 (Kd.R (Kd.int .i64) 3 ((((((((((((w21.setCell ⟨gb548, 0, none⟩ (.int .i64 t545)).setCell ⟨gb548, 1, none⟩ (.bool ((rd l0 13) == 1))).setCell ⟨gb548, 2, none⟩ (.bool ((rd l0 12) == 1))).setCell ⟨gb548, 3, none⟩ (.int .i64 0)).setCell ⟨gb548, 4, none⟩ (.int .u8 0)).setCell ⟨gb548, 5, none⟩ (.int .u8 0)).setCell ⟨gb548, 6, none⟩ (.int .u8 0)).setCell ⟨gb548, 7, none⟩ (.int .u8 0)).setCell ⟨gb548, 8, none⟩ (.int .u8 0)).setCell ⟨gb548, 9, none⟩ (.int .u8 0)).setCell ⟨gb548, 10, none⟩ (.int .u8 0)).setCell ⟨gb548, 11, none⟩ (.int .u8 0)) w.heap.size (fun _ => True) v542 t541) := ⟨by (with_reducible repeat (first | apply Kd.R_alloc | apply Kd.R_drewN | apply Kd.R_drew)); exact Kd.R_mono (Kd.R_far (p := ⟨gb548, 11, none⟩) (Kd.R_far (p := ⟨gb548, 10, none⟩) (Kd.R_far (p := ⟨gb548, 9, none⟩) (Kd.R_far (p := ⟨gb548, 8, none⟩) (Kd.R_far (p := ⟨gb548, 7, none⟩) (Kd.R_far (p := ⟨gb548, 6, none⟩) (Kd.R_far (p := ⟨gb548, 5, none⟩) (Kd.R_far (p := ⟨gb548, 4, none⟩) (Kd.R_far (p := ⟨gb548, 3, none⟩) (Kd.R_far (p := ⟨gb548, 2, none⟩) (Kd.R_far (p := ⟨gb548, 1, none⟩) (Kd.R_far (p := ⟨gb548, 0, none⟩) (Kd.R_types HO543.out BK548.out (by decide)) (fun _ hk => hk.2) (.int .i64 t545)) (fun _ hk => hk.2) (.bool ((rd l0 13) == 1))) (fun _ hk => hk.2) (.bool ((rd l0 12) == 1))) (fun _ hk => hk.2) (.int .i64 0)) (fun _ hk => hk.2) (.int .u8 0)) (fun _ hk => hk.2) (.int .u8 0)) (fun _ hk => hk.2) (.int .u8 0)) (fun _ hk => hk.2) (.int .u8 0)) (fun _ hk => hk.2) (.int .u8 0)) (fun _ hk => hk.2) (.int .u8 0)) (fun _ hk => hk.2) (.int .u8 0)) (fun _ hk => hk.2) (.int .u8 0)) (fun _ hk => trivial)⟩
         have n1_ : Aside0 (((((((((((((w21.setCell ⟨gb548, 0, none⟩ (.int .i64 t545)).setCell ⟨gb548, 1, none⟩ (.bool ((rd l0 13) == 1))).setCell ⟨gb548, 2, none⟩ (.bool ((rd l0 12) == 1))).setCell ⟨gb548, 3, none⟩ (.int .i64 0)).setCell ⟨gb548, 4, none⟩ (.int .u8 0)).setCell ⟨gb548, 5, none⟩ (.int .u8 0)).setCell ⟨gb548, 6, none⟩ (.int .u8 0)).setCell ⟨gb548, 7, none⟩ (.int .u8 0)).setCell ⟨gb548, 8, none⟩ (.int .u8 0)).setCell ⟨gb548, 9, none⟩ (.int .u8 0)).setCell ⟨gb548, 10, none⟩ (.int .u8 0)).setCell ⟨gb548, 11, none⟩ (.int .u8 0)).heap[gb538]? = some (.cells #[.int .i64 0, .bool false, .bool false, .int .i64 0, .int .u8 0, .int .u8 0, .int .u8 0, .int .u8 0, .int .u8 0, .int .u8 0, .int .u8 0, .int .u8 0] 24 (0, 0))) := ⟨by (with_reducible repeat (first | refine blk_drewN ?_ _ | refine blk_drew ?_ | refine blk_alloc ?_ _)); refine blk_far ?_ NB538_548.out _; (with_reducible repeat (first | refine blk_drewN ?_ _ | refine blk_drew ?_ | refine blk_alloc ?_ _)); refine blk_far ?_ NB538_548.out _; (with_reducible repeat (first | refine blk_drewN ?_ _ | refine blk_drew ?_ | refine blk_alloc ?_ _)); refine blk_far ?_ NB538_548.out _; (with_reducible repeat (first | refine blk_drewN ?_ _ | refine blk_drew ?_ | refine blk_alloc ?_ _)); refine blk_far ?_ NB538_548.out _; (with_reducible repeat (first | refine blk_drewN ?_ _ | refine blk_drew ?_ | refine blk_alloc ?_ _)); refine blk_far ?_ NB538_548.out _; (with_reducible repeat (first | refine blk_drewN ?_ _ | refine blk_drew ?_ | refine blk_alloc ?_ _)); refine blk_far ?_ NB538_548.out _; (with_reducible repeat (first | refine blk_drewN ?_ _ | refine blk_drew ?_ | refine blk_alloc ?_ _)); refine blk_far ?_ NB538_548.out _; (with_reducible repeat (first | refine blk_drewN ?_ _ | refine blk_drew ?_ | refine blk_alloc ?_ _)); refine blk_far ?_ NB538_548.out _; (with_reducible repeat (first | refine blk_drewN ?_ _ | refine blk_drew ?_ | refine blk_alloc ?_ _)); refine blk_far ?_ NB538_548.out _; (with_reducible repeat (first | refine blk_drewN ?_ _ | refine blk_drew ?_ | refine blk_alloc ?_ _)); refine blk_far ?_ NB538_548.out _; (with_reducible repeat (first | refine blk_drewN ?_ _ | refine blk_drew ?_ | refine blk_alloc ?_ _)); refine blk_far ?_ NB538_548.out _; (with_reducible repeat (first | refine blk_drewN ?_ _ | refine blk_drew ?_ | refine blk_alloc ?_ _)); refine blk_far ?_ NB538_548.out _; (with_reducible repeat (first | refine blk_drewN ?_ _ | refine blk_drew ?_ | refine blk_alloc ?_ _)); exact BK538.out⟩
         have n2_ : Aside0 (((((((((((((w21.setCell ⟨gb548, 0, none⟩ (.int .i64 t545)).setCell ⟨gb548, 1, none⟩ (.bool ((rd l0 13) == 1))).setCell ⟨gb548, 2, none⟩ (.bool ((rd l0 12) == 1))).setCell ⟨gb548, 3, none⟩ (.int .i64 0)).setCell ⟨gb548, 4, none⟩ (.int .u8 0)).setCell ⟨gb548, 5, none⟩ (.int .u8 0)).setCell ⟨gb548, 6, none⟩ (.int .u8 0)).setCell ⟨gb548, 7, none⟩ (.int .u8 0)).setCell ⟨gb548, 8, none⟩ (.int .u8 0)).setCell ⟨gb548, 9, none⟩ (.int .u8 0)).setCell ⟨gb548, 10, none⟩ (.int .u8 0)).setCell ⟨gb548, 11, none⟩ (.int .u8 0)).heap[gb548]? = some (.cells #[.int .i64 t545, .bool ((rd l0 13) == 1), .bool ((rd l0 12) == 1), .int .i64 0, .int .u8 0, .int .u8 0, .int .u8 0, .int .u8 0, .int .u8 0, .int .u8 0, .int .u8 0, .int .u8 0] 24 (0, 0))) := ⟨by (with_reducible repeat (first | refine blk_drewN ?_ _ | refine blk_drew ?_ | refine blk_alloc ?_ _)); refine blk_put (cs := #[.int .i64 t545, .bool ((rd l0 13) == 1), .bool ((rd l0 12) == 1), .int .i64 0, .int .u8 0, .int .u8 0, .int .u8 0, .int .u8 0, .int .u8 0, .int .u8 0, .int .u8 0, .int .u8 0]) ?_ 11 _ rfl; (with_reducible repeat (first | refine blk_drewN ?_ _ | refine blk_drew ?_ | refine blk_alloc ?_ _)); refine blk_put (cs := #[.int .i64 t545, .bool ((rd l0 13) == 1), .bool ((rd l0 12) == 1), .int .i64 0, .int .u8 0, .int .u8 0, .int .u8 0, .int .u8 0, .int .u8 0, .int .u8 0, .int .u8 0, .int .u8 0]) ?_ 10 _ rfl; (with_reducible repeat (first | refine blk_drewN ?_ _ | refine blk_drew ?_ | refine blk_alloc ?_ _)); refine blk_put (cs := #[.int .i64 t545, .bool ((rd l0 13) == 1), .bool ((rd l0 12) == 1), .int .i64 0, .int .u8 0, .int .u8 0, .int .u8 0, .int .u8 0, .int .u8 0, .int .u8 0, .int .u8 0, .int .u8 0]) ?_ 9 _ rfl; (with_reducible repeat (first | refine blk_drewN ?_ _ | refine blk_drew ?_ | refine blk_alloc ?_ _)); refine blk_put (cs := #[.int .i64 t545, .bool ((rd l0 13) == 1), .bool ((rd l0 12) == 1), .int .i64 0, .int .u8 0, .int .u8 0, .int .u8 0, .int .u8 0, .int .u8 0, .int .u8 0, .int .u8 0, .int .u8 0]) ?_ 8 _ rfl; (with_reducible repeat (first | refine blk_drewN ?_ _ | refine blk_drew ?_ | refine blk_alloc ?_ _)); refine blk_put (cs := #[.int .i64 t545, .bool ((rd l0 13) == 1), .bool ((rd l0 12) == 1), .int .i64 0, .int .u8 0, .int .u8 0, .int .u8 0, .int .u8 0, .int .u8 0, .int .u8 0, .int .u8 0, .int .u8 0]) ?_ 7 _ rfl; (with_reducible repeat (first | refine blk_drewN ?_ _ | refine blk_drew ?_ | refine blk_alloc ?_ _)); refine blk_put (cs := #[.int .i64 t545, .bool ((rd l0 13) == 1), .bool ((rd l0 12) == 1), .int .i64 0, .int .u8 0, .int .u8 0, .int .u8 0, .int .u8 0, .int .u8 0, .int .u8 0, .int .u8 0, .int .u8 0]) ?_ 6 _ rfl; (with_reducible repeat (first | refine blk_drewN ?_ _ | refine blk_drew ?_ | refine blk_alloc ?_ _)); refine blk_put (cs := #[.int .i64 t545, .bool ((rd l0 13) == 1), .bool ((rd l0 12) == 1), .int .i64 0, .int .u8 0, .int .u8 0, .int .u8 0, .int .u8 0, .int .u8 0, .int .u8 0, .int .u8 0, .int .u8 0]) ?_ 5 _ rfl; (with_reducible repeat (first | refine blk_drewN ?_ _ | refine blk_drew ?_ | refine blk_alloc ?_ _)); refine blk_put (cs := #[.int .i64 t545, .bool ((rd l0 13) == 1), .bool ((rd l0 12) == 1), .int .i64 0, .int .u8 0, .int .u8 0, .int .u8 0, .int .u8 0, .int .u8 0, .int .u8 0, .int .u8 0, .int .u8 0]) ?_ 4 _ rfl; (with_reducible repeat (first | refine blk_drewN ?_ _ | refine blk_drew ?_ | refine blk_alloc ?_ _)); refine blk_put (cs := #[.int .i64 t545, .bool ((rd l0 13) == 1), .bool ((rd l0 12) == 1), .int .i64 0, .int .u8 0, .int .u8 0, .int .u8 0, .int .u8 0, .int .u8 0, .int .u8 0, .int .u8 0, .int .u8 0]) ?_ 3 _ rfl; (with_reducible repeat (first | refine blk_drewN ?_ _ | refine blk_drew ?_ | refine blk_alloc ?_ _)); refine blk_put (cs := #[.int .i64 t545, .bool ((rd l0 13) == 1), .bool false, .int .i64 0, .int .u8 0, .int .u8 0, .int .u8 0, .int .u8 0, .int .u8 0, .int .u8 0, .int .u8 0, .int .u8 0]) ?_ 2 _ rfl; (with_reducible repeat (first | refine blk_drewN ?_ _ | refine blk_drew ?_ | refine blk_alloc ?_ _)); refine blk_put (cs := #[.int .i64 t545, .bool false, .bool false, .int .i64 0, .int .u8 0, .int .u8 0, .int .u8 0, .int .u8 0, .int .u8 0, .int .u8 0, .int .u8 0, .int .u8 0]) ?_ 1 _ rfl; (with_reducible repeat (first | refine blk_drewN ?_ _ | refine blk_drew ?_ | refine blk_alloc ?_ _)); refine blk_put (cs := #[.int .i64 0, .bool false, .bool false, .int .i64 0, .int .u8 0, .int .u8 0, .int .u8 0, .int .u8 0, .int .u8 0, .int .u8 0, .int .u8 0, .int .u8 0]) ?_ 0 _ rfl; (with_reducible repeat (first | refine blk_drewN ?_ _ | refine blk_drew ?_ | refine blk_alloc ?_ _)); exact BK548.out⟩
         have n3_ : Aside0 (Below w.heap.size w ((((((((((((w21.setCell ⟨gb548, 0, none⟩ (.int .i64 t545)).setCell ⟨gb548, 1, none⟩ (.bool ((rd l0 13) == 1))).setCell ⟨gb548, 2, none⟩ (.bool ((rd l0 12) == 1))).setCell ⟨gb548, 3, none⟩ (.int .i64 0)).setCell ⟨gb548, 4, none⟩ (.int .u8 0)).setCell ⟨gb548, 5, none⟩ (.int .u8 0)).setCell ⟨gb548, 6, none⟩ (.int .u8 0)).setCell ⟨gb548, 7, none⟩ (.int .u8 0)).setCell ⟨gb548, 8, none⟩ (.int .u8 0)).setCell ⟨gb548, 9, none⟩ (.int .u8 0)).setCell ⟨gb548, 10, none⟩ (.int .u8 0)).setCell ⟨gb548, 11, none⟩ (.int .u8 0))) := ⟨by repeat (first | (with_reducible first | exact HB.out | apply below_alloc | apply pw_below_drewN | apply below_drew1 | refine below_set ?_ GE538.out | refine below_set ?_ GE548.out) | exact HB.out)⟩
         (try clear HO543)
         (try clear BK538)
         (try clear BK548)
         (try clear HB)
         generalize ((((((((((((w21.setCell ⟨gb548, 0, none⟩ (.int .i64 t545)).setCell ⟨gb548, 1, none⟩ (.bool ((rd l0 13) == 1))).setCell ⟨gb548, 2, none⟩ (.bool ((rd l0 12) == 1))).setCell ⟨gb548, 3, none⟩ (.int .i64 0)).setCell ⟨gb548, 4, none⟩ (.int .u8 0)).setCell ⟨gb548, 5, none⟩ (.int .u8 0)).setCell ⟨gb548, 6, none⟩ (.int .u8 0)).setCell ⟨gb548, 7, none⟩ (.int .u8 0)).setCell ⟨gb548, 8, none⟩ (.int .u8 0)).setCell ⟨gb548, 9, none⟩ (.int .u8 0)).setCell ⟨gb548, 10, none⟩ (.int .u8 0)).setCell ⟨gb548, 11, none⟩ (.int .u8 0)) = w34 at n0_ n1_ n2_ n3_ ⊢
         have HO543 := n0_
         have BK538 := n1_
         have BK548 := n2_
         have HB := n3_
         clear n0_ n1_ n2_ n3_
         have hnb35 := NB548_538.out
         have hnc35 := NB538_548.out
         have hcz36_0 : w34.cell? ⟨gb548, 0, none⟩ = some (.int .i64 t545) := (blk_cell BK548.out 0).trans rfl
         have hcz36_1 : w34.cell? ⟨gb548, 1, none⟩ = some (.bool ((rd l0 13) == 1)) := (blk_cell BK548.out 1).trans rfl
         have hcz36_2 : w34.cell? ⟨gb548, 2, none⟩ = some (.bool ((rd l0 12) == 1)) := (blk_cell BK548.out 2).trans rfl
         have hcz36_3 : w34.cell? ⟨gb548, 3, none⟩ = some (.int .i64 0) := (blk_cell BK548.out 3).trans rfl
         have hcz36_4 : w34.cell? ⟨gb548, 4, none⟩ = some (.int .u8 0) := (blk_cell BK548.out 4).trans rfl
         have hcz36_5 : w34.cell? ⟨gb548, 5, none⟩ = some (.int .u8 0) := (blk_cell BK548.out 5).trans rfl
         have hcz36_6 : w34.cell? ⟨gb548, 6, none⟩ = some (.int .u8 0) := (blk_cell BK548.out 6).trans rfl
         have hcz36_7 : w34.cell? ⟨gb548, 7, none⟩ = some (.int .u8 0) := (blk_cell BK548.out 7).trans rfl
         have hcz36_8 : w34.cell? ⟨gb548, 8, none⟩ = some (.int .u8 0) := (blk_cell BK548.out 8).trans rfl
         have hcz36_9 : w34.cell? ⟨gb548, 9, none⟩ = some (.int .u8 0) := (blk_cell BK548.out 9).trans rfl
         have hcz36_10 : w34.cell? ⟨gb548, 10, none⟩ = some (.int .u8 0) := (blk_cell BK548.out 10).trans rfl
         have hcz36_11 : w34.cell? ⟨gb548, 11, none⟩ = some (.int .u8 0) := (blk_cell BK548.out 11).trans rfl
         have hfz36_0 := blk_frozen BK548.out 0
         have hfz36_1 := blk_frozen BK548.out 1
         have hfz36_2 := blk_frozen BK548.out 2
         have hfz36_3 := blk_frozen BK548.out 3
         have hfz36_4 := blk_frozen BK548.out 4
         have hfz36_5 := blk_frozen BK548.out 5
         have hfz36_6 := blk_frozen BK548.out 6
         have hfz36_7 := blk_frozen BK548.out 7
         have hfz36_8 := blk_frozen BK548.out 8
         have hfz36_9 := blk_frozen BK548.out 9
         have hfz36_10 := blk_frozen BK548.out 10
         have hfz36_11 := blk_frozen BK548.out 11
         go_upto_if 40 with (fail)
         go_cut [] (fun wc => ∃ (kq : Nat) (x549000_15 : Int) (x549002_15 : Bool), Aside0 (magnetoref04_Frame.j1 kq l0 t541 x549000_15 ((rd l0 13) == 1) x549002_15 0 0 0 0 0 0 0 0 0 = some (r1, r2, r3, r4, r5, r6, r7, r8, r9, r10, r11, r12, r13)) ∧ Aside0 (kq ≤ kj2) ∧ Aside0 (Kd.R (Kd.int .i64) 3 wc w.heap.size (fun _ => True) v542 t541) ∧ Aside0 (wc.heap[gb538]? = some (.cells #[.int .i64 0, .bool false, .bool false, .int .i64 0, .int .u8 0, .int .u8 0, .int .u8 0, .int .u8 0, .int .u8 0, .int .u8 0, .int .u8 0, .int .u8 0] 24 (0, 0))) ∧ Aside0 (wc.heap[gb548]? = some (.cells #[.int .i64 x549000_15, .bool ((rd l0 13) == 1), .bool x549002_15, .int .i64 0, .int .u8 0, .int .u8 0, .int .u8 0, .int .u8 0, .int .u8 0, .int .u8 0, .int .u8 0, .int .u8 0] 24 (0, 0))) ∧ Aside0 (Below w.heap.size w wc))
         case first =>
          have H := HC16.out
          clear HC16
          by_cases c37 : (rd l0 13) = 1
          ·
           rw [if_pos c37] at H
           have c37b0 : ((rd l0 13) == 1) = true := beq_iff_eq.mpr c37
           have c37b1 : ((rd l0 13) != 1) = false := bne_eq_false_iff_eq.mpr c37
           clear c37
           (first | rw [c37b0] | (simp only [i64_w, i32_w]; rw [c37b0]) | skip)
           by_cases c38 : 32 ≤ (l0.length : Int)
           ·
            rw [if_pos c38] at H
            have c38b0 := eq_true c38
            have c38b1 : decide (32 ≤ (l0.length : Int)) = true := decide_eq_true c38
            clear c38
            replace H := Option.bind_eq_some_iff.mp H
            obtain ⟨t550, A390, H⟩ := H
            replace H : (if 32 < (l0.length : Int) then (magnetoref04_Frame.j1 kj2 l0 t541 (wrap64 ((wrap64 (262144 * t545)) + t550)) ((rd l0 13) == 1) ((rd l0 32) == 1) 0 0 0 0 0 0 0 0 0) else (none)) = some (r1, r2, r3, r4, r5, r6, r7, r8, r9, r10, r11, r12, r13) := H
            have A39 := Aside0.mk A390
            clear A390
            by_cases c40 : 32 < (l0.length : Int)
            ·
             rw [if_pos c40] at H
             have c40b0 : decide (32 < (l0.length : Int)) = true := decide_eq_true c40
             have c40b1 : decide (32 < l0.length) = true := decide_eq_true (by omega)
             clear c40
             have H' := Aside0.mk H
             clear H
             try go_wp2
             have n0_ := Aside0.mk (Kd.R_drew HO543.out)
             have n1_ := Aside0.mk (blk_drew BK538.out)
             have n2_ := Aside0.mk (blk_drew BK548.out)
             have n3_ := Aside0.mk (below_drew1 HB.out)
             clear HO543
             clear BK538
             clear BK548
             clear HB
             have HO543 := n0_
             have BK538 := n1_
             have BK548 := n2_
             have HB := n3_
             clear n0_ n1_ n2_ n3_
             obtain ⟨i042, hi042, _, hsz42, _⟩ := info_parts info3
             obtain ⟨A42, hcut42, hA42, hC42⟩ := print_mid_of (P := Try.prog) (Value.int .i64) 0 25 3 .i64 .i64 Try.underlying25 hi042 hsz42 (some ad540) c0 l0 14 32 (by omega) (by first | omega | exact of_decide_eq_true (by first | (with_reducible assumption) | assumption)) (of_decide_eq_true (by first | (with_reducible assumption) | assumption)) HC0.out
             have HR549 := Aside0.mk (Kd.C_of_reads (h1 := fun _ => rfl) (hA42 _ (Kd.reads_of_C HR0.out)))
             have HC549 := Aside0.mk hC42
             clear hA42 hC42 hi042 hsz42
             refine start_ (n := 9) (S := fun w' => w'.cell? ⟨gb548, 0, none⟩ = some (.int .i64 t545) ∧ w'.cell? ⟨gb548, 1, none⟩ = some (.bool ((rd l0 13) == 1)) ∧ w'.cell? ⟨gb548, 2, none⟩ = some (.bool ((rd l0 12) == 1)) ∧ w'.cell? ⟨gb548, 3, none⟩ = some (.int .i64 0) ∧ w'.cell? ⟨gb548, 4, none⟩ = some (.int .u8 0) ∧ w'.cell? ⟨gb548, 5, none⟩ = some (.int .u8 0) ∧ w'.cell? ⟨gb548, 6, none⟩ = some (.int .u8 0) ∧ w'.cell? ⟨gb548, 7, none⟩ = some (.int .u8 0) ∧ w'.cell? ⟨gb548, 8, none⟩ = some (.int .u8 0) ∧ w'.cell? ⟨gb548, 9, none⟩ = some (.int .u8 0) ∧ w'.cell? ⟨gb548, 10, none⟩ = some (.int .u8 0) ∧ w'.cell? ⟨gb548, 11, none⟩ = some (.int .u8 0)) (ds := [8]) #[false, false, false, false, false, false, false, false, false] (by kernel_rfl) rfl rfl ⟨(blk_cell BK548.out 0).trans rfl, (blk_cell BK548.out 1).trans rfl, (blk_cell BK548.out 2).trans rfl, (blk_cell BK548.out 3).trans rfl, (blk_cell BK548.out 4).trans rfl, (blk_cell BK548.out 5).trans rfl, (blk_cell BK548.out 6).trans rfl, (blk_cell BK548.out 7).trans rfl, (blk_cell BK548.out 8).trans rfl, (blk_cell BK548.out 9).trans rfl, (blk_cell BK548.out 10).trans rfl, (blk_cell BK548.out 11).trans rfl⟩ (fun hHeld => ?_); refine with_tabW magnetoref04_Frame.tab9 magnetoref04_Frame.bits9 (fun HT_ HW_ => ?_)
             generalize w34.drew = w41 at HO543 BK538 BK548 HB HR549 hHeld ⊢
             refine pure_ (i := 0) (N := some 41) (v := ?_) (a' := ?_) #[true, false, false, false, false, false, false, false, false] rfl rfl (any_of HT_.out (by kernel_rfl)) (fun _ _ _ h => h) (Or.inl ⟨by rfl, ?_⟩) ?_ ?_
             rotate_left
             ·
              intro w'
              go_simp
              with_reducible rfl
             rotate_left
             ·
              simp only [Act.put, List.setIfInBounds_toArray, List.set_cons_zero, List.set_cons_succ, i64_w, i32_w]
              rfl
             refine pure_ (i := 3) (N := some 44) (v := ?_) (a' := ?_) #[true, false, false, true, false, false, false, false, false] rfl rfl (any_of HT_.out (by kernel_rfl)) (fun _ _ _ h => h) (Or.inl ⟨by rfl, ?_⟩) ?_ ?_
             rotate_left
             ·
              intro w'
              go_simp
              with_reducible rfl
             rotate_left
             ·
              simp only [Act.put, List.setIfInBounds_toArray, List.set_cons_zero, List.set_cons_succ, i64_w, i32_w]
              rfl
             refine pure_ (i := 4) (N := some 45) (v := ?_) (a' := ?_) #[true, false, false, true, true, false, false, false, false] rfl rfl (any_of HT_.out (by kernel_rfl)) (fun _ _ _ h => h) (Or.inl ⟨by rfl, ?_⟩) ?_ ?_
             rotate_left
             ·
              intro w'
              go_simp
              with_reducible rfl
             rotate_left
             ·
              simp only [Act.put, List.setIfInBounds_toArray, List.set_cons_zero, List.set_cons_succ, i64_w, i32_w]
              rfl
             refine take_ (i := 1) (N := some 42) (v := ?_) (a' := ?_) #[true, true, false, true, true, false, false, false, false] rfl rfl (take_ofW HT_.out HW_.out (by kernel_rfl)) (fun _ _ _ h => h) (Or.inl ⟨by rfl, ?_⟩) hHeld ?_ ?_
             rotate_left
             ·
              rintro w' ⟨s0, s1, s2, s3, s4, s5, s6, s7, s8, s9, s10, s11⟩
              go_simp
              with_reducible rfl
             rotate_left
             ·
              simp only [Act.put, List.setIfInBounds_toArray, List.set_cons_zero, List.set_cons_succ, i64_w, i32_w]
              rfl
             refine pure_ (i := 2) (N := some 43) (v := ?_) (a' := ?_) #[true, true, true, true, true, false, false, false, false] rfl rfl (any_of HT_.out (by kernel_rfl)) (fun _ _ _ h => h) (Or.inl ⟨by rfl, ?_⟩) ?_ ?_
             rotate_left
             ·
              intro w'
              go_simp
              with_reducible rfl
             rotate_left
             ·
              simp only [Act.put, List.setIfInBounds_toArray, List.set_cons_zero, List.set_cons_succ, i64_w, i32_w]
              rfl
             refine one_ (i := 5) (N := some 46) #[true, true, true, true, true, true, false, false, false] rfl rfl (one_of HT_.out (by kernel_rfl)) (by decide) (fun K hK => ?_)
             refine goes_ Try.func59 (by kernel_rfl) rfl #[.slice A42 ((l0.take 32).drop 14).length (c0 - 14)] (by rfl) rfl rfl (by (try simp only [List.map_toArray, List.map_cons, List.map_nil]); first | done | (rw [show ((l0.take 32).drop 14).length = (32 - 14) from (by rw [List.length_drop, List.length_take]; have h_ : (32 : Int) ≤ (l0.length : Int) := of_decide_eq_true (by first | (with_reducible assumption) | assumption); omega)] <;> rfl) | rfl | (simp only [List.length_drop, List.length_take]; rfl)) ?_
             with_reducible refine (magnetoref04_Value.calls kj2 _ _ ((l0.take 32).drop 14) t550 _ ?side1 ?side2 A39.out).mono ?_
             (case side1 => repeat (first | exact (Kd.C_below HR549.out HB.out) | (with_reducible refine Kd.C_alloc ?_ _) | (with_reducible refine Kd.C_drewN ?_ _) | (with_reducible refine Kd.C_drew ?_)))
             (case side2 => exact HC549.out)
             rintro e w' ⟨rfl, ⟨nd, rfl⟩⟩
             refine ⟨_, rfl, ?_⟩
             refine hK.out _ _ ⟨(blk_cell BK548.out 0).trans rfl, (blk_cell BK548.out 1).trans rfl, (blk_cell BK548.out 2).trans rfl, (blk_cell BK548.out 3).trans rfl, (blk_cell BK548.out 4).trans rfl, (blk_cell BK548.out 5).trans rfl, (blk_cell BK548.out 6).trans rfl, (blk_cell BK548.out 7).trans rfl, (blk_cell BK548.out 8).trans rfl, (blk_cell BK548.out 9).trans rfl, (blk_cell BK548.out 10).trans rfl, (blk_cell BK548.out 11).trans rfl⟩ (fun hHeld => ?_)
             clear hK K
             refine norm_ (a' := ?_) ?_ ?_
             rotate_left
             ·
              show Act.put _ (some 46) _ = _
              simp only [Act.put, List.setIfInBounds_toArray, List.set_cons_zero, List.set_cons_succ, i64_w, i32_w]
              rfl
             refine pure_ (i := 6) (N := some 47) (v := ?_) (a' := ?_) #[true, true, true, true, true, true, true, false, false] rfl rfl (any_of HT_.out (by kernel_rfl)) (fun _ _ _ h => h) (Or.inl ⟨by rfl, ?_⟩) ?_ ?_
             rotate_left
             ·
              intro w'
              go_simp
              with_reducible rfl
             rotate_left
             ·
              simp only [Act.put, List.setIfInBounds_toArray, List.set_cons_zero, List.set_cons_succ, i64_w, i32_w]
              rfl
             refine pure_ (i := 7) (N := some 48) (v := ?_) (a' := ?_) #[true, true, true, true, true, true, true, true, false] rfl rfl (any_of HT_.out (by kernel_rfl)) (fun _ _ _ h => h) (Or.inl ⟨by rfl, ?_⟩) ?_ ?_
             rotate_left
             ·
              intro w'
              go_simp
              with_reducible rfl
             rotate_left
             ·
              simp only [Act.put, List.setIfInBounds_toArray, List.set_cons_zero, List.set_cons_succ, i64_w, i32_w]
              rfl
             refine last_ (i := 8) (N := none) #[true, true, true, true, true, true, true, true, true] rfl rfl (one_of HT_.out (by kernel_rfl)) (by decide) (fun K hK => ?_)
             have hs43 : w41.cell? ⟨gb548, 0, none⟩ = some (.int .i64 t545) := (blk_cell BK548.out 0).trans rfl
             have hfs43 := blk_frozen BK548.out 0
             have hns43_0 := NB538_548.out
             have hms43_0 := NB548_538.out
             refine skip_ (w1 := ?_) (by rfl) rfl ?_ ?_
             rotate_left
             ·
              go_simp
              rfl
             refine hK.out _ _ ?_
             clear hK K
             refine done_ (done_of HT_.out (by kernel_rfl)) ?_
             have p551 : 0 ≤ (32 : Int) := (by omega)
             have q551 : 32 < (l0.length : Int) := of_decide_eq_true (by first | (with_reducible assumption) | assumption)
             obtain ⟨ad551, e551, hx551_0⟩ := Kd.at_int HR0.out 32 p551 q551
             obtain rfl : ad540 = ad551 := (by injection e551)
             (try simp only [show (32 : Int).toNat = 32 from rfl, Nat.reduceMul, Nat.reduceEqDiff, Go.Addr.add, ↓reduceIte] at hx551_0)
             have qi551 : (32 < l0.length) = True := eq_true (by omega)
             (try rw [show ((32 : Int)).toNat = 32 from rfl] at hx551_0)
             have hn551_0 : ad540.block ≠ gb548 := Nat.ne_of_lt (Nat.lt_of_lt_of_le (by have := World.block_lt_of_cell? _ _ hx551_0; first | rwa [add_block] at this | exact this) GW548.out)
             replace hx551_0 := (HB.out.cell (World.block_lt_of_cell? w _ hx551_0)).trans hx551_0
             replace hx551_0 := (cell_far (p := ⟨gb548, 0, none⟩) (by first | (rw [add_block]; exact hn551_0) | (show (Addr.add _ _).block ≠ _; rw [add_block]; exact hn551_0) | exact hn551_0) (.int .i64 (wrap64 ((wrap64 (262144 * t545)) + t550)))).trans hx551_0
             change ((w41.drewN nd).setCell ⟨gb548, 0, none⟩ (.int .i64 (wrap64 ((wrap64 (262144 * t545)) + t550)))).cell? _ = _ at hx551_0
             clear hn551_0
             replace p551 := eq_true p551
             replace q551 := eq_true q551
             have hnb44 := NB548_538.out
             have hnc44 := NB538_548.out
             have hcz45_0 : w41.cell? ⟨gb548, 0, none⟩ = some (.int .i64 t545) := (blk_cell BK548.out 0).trans rfl
             have hcz45_1 : w41.cell? ⟨gb548, 1, none⟩ = some (.bool ((rd l0 13) == 1)) := (blk_cell BK548.out 1).trans rfl
             have hcz45_2 : w41.cell? ⟨gb548, 2, none⟩ = some (.bool ((rd l0 12) == 1)) := (blk_cell BK548.out 2).trans rfl
             have hcz45_3 : w41.cell? ⟨gb548, 3, none⟩ = some (.int .i64 0) := (blk_cell BK548.out 3).trans rfl
             have hcz45_4 : w41.cell? ⟨gb548, 4, none⟩ = some (.int .u8 0) := (blk_cell BK548.out 4).trans rfl
             have hcz45_5 : w41.cell? ⟨gb548, 5, none⟩ = some (.int .u8 0) := (blk_cell BK548.out 5).trans rfl
             have hcz45_6 : w41.cell? ⟨gb548, 6, none⟩ = some (.int .u8 0) := (blk_cell BK548.out 6).trans rfl
             have hcz45_7 : w41.cell? ⟨gb548, 7, none⟩ = some (.int .u8 0) := (blk_cell BK548.out 7).trans rfl
             have hcz45_8 : w41.cell? ⟨gb548, 8, none⟩ = some (.int .u8 0) := (blk_cell BK548.out 8).trans rfl
             have hcz45_9 : w41.cell? ⟨gb548, 9, none⟩ = some (.int .u8 0) := (blk_cell BK548.out 9).trans rfl
             have hcz45_10 : w41.cell? ⟨gb548, 10, none⟩ = some (.int .u8 0) := (blk_cell BK548.out 10).trans rfl
             have hcz45_11 : w41.cell? ⟨gb548, 11, none⟩ = some (.int .u8 0) := (blk_cell BK548.out 11).trans rfl
             have hfz45_0 := blk_frozen BK548.out 0
             have hfz45_1 := blk_frozen BK548.out 1
             have hfz45_2 := blk_frozen BK548.out 2
             have hfz45_3 := blk_frozen BK548.out 3
             have hfz45_4 := blk_frozen BK548.out 4
             have hfz45_5 := blk_frozen BK548.out 5
             have hfz45_6 := blk_frozen BK548.out 6
             have hfz45_7 := blk_frozen BK548.out 7
             have hfz45_8 := blk_frozen BK548.out 8
             have hfz45_9 := blk_frozen BK548.out 9
             have hfz45_10 := blk_frozen BK548.out 10
             have hfz45_11 := blk_frozen BK548.out 11
             try go_wp2
             go_meet
             case rel => exact ⟨_, (wrap64 ((wrap64 (262144 * t545)) + t550)), (((rd l0 32) == 1)), H', ⟨by have := HJ2.out; first | omega | exact Nat.le_refl _⟩, ⟨by (with_reducible repeat (first | apply Kd.R_alloc | apply Kd.R_drewN | apply Kd.R_drew)); exact Kd.R_mono (Kd.R_far (p := ⟨gb548, 2, none⟩) (Kd.R_far (p := ⟨gb548, 0, none⟩) (Kd.R_types HO543.out BK548.out (by decide)) (fun _ hk => hk.2) (.int .i64 (wrap64 ((wrap64 (262144 * t545)) + t550)))) (fun _ hk => hk.2) (.bool ((rd l0 32) == 1))) (fun _ hk => trivial)⟩, ⟨by (with_reducible repeat (first | refine blk_drewN ?_ _ | refine blk_drew ?_ | refine blk_alloc ?_ _)); refine blk_far ?_ NB538_548.out _; (with_reducible repeat (first | refine blk_drewN ?_ _ | refine blk_drew ?_ | refine blk_alloc ?_ _)); refine blk_far ?_ NB538_548.out _; (with_reducible repeat (first | refine blk_drewN ?_ _ | refine blk_drew ?_ | refine blk_alloc ?_ _)); exact BK538.out⟩, ⟨by (with_reducible repeat (first | refine blk_drewN ?_ _ | refine blk_drew ?_ | refine blk_alloc ?_ _)); refine blk_put (cs := #[.int .i64 (wrap64 ((wrap64 (262144 * t545)) + t550)), .bool ((rd l0 13) == 1), .bool ((rd l0 12) == 1), .int .i64 0, .int .u8 0, .int .u8 0, .int .u8 0, .int .u8 0, .int .u8 0, .int .u8 0, .int .u8 0, .int .u8 0]) ?_ 2 _ rfl; (with_reducible repeat (first | refine blk_drewN ?_ _ | refine blk_drew ?_ | refine blk_alloc ?_ _)); refine blk_put (cs := #[.int .i64 t545, .bool ((rd l0 13) == 1), .bool ((rd l0 12) == 1), .int .i64 0, .int .u8 0, .int .u8 0, .int .u8 0, .int .u8 0, .int .u8 0, .int .u8 0, .int .u8 0, .int .u8 0]) ?_ 0 _ rfl; (with_reducible repeat (first | refine blk_drewN ?_ _ | refine blk_drew ?_ | refine blk_alloc ?_ _)); exact BK548.out⟩, ⟨by repeat (first | (with_reducible first | exact HB.out | apply below_alloc | apply pw_below_drewN | apply below_drew1 | refine below_set ?_ GE538.out | refine below_set ?_ GE548.out) | exact HB.out)⟩⟩
            ·
             rw [if_neg c40] at H
             exact absurd H (by simp)
           ·
            rw [if_neg c38] at H
            exact absurd H (by simp)
          ·
           rw [if_neg c37] at H
           have c37b0 : ((rd l0 13) == 1) = false := beq_eq_false_iff_ne.mpr c37
           have c37b1 : ((rd l0 13) != 1) = true := bne_iff_ne.mpr c37
           (first | rw [c37b0] | (simp only [i64_w, i32_w]; rw [c37b0]) | skip)
           have H' := Aside0.mk H
           clear H
           go_wp2
           go_meet
           case rel => exact ⟨_, (t545), (((rd l0 12) == 1)), H', ⟨by have := HJ2.out; first | omega | exact Nat.le_refl _⟩, ⟨by (with_reducible repeat (first | apply Kd.R_alloc | apply Kd.R_drewN | apply Kd.R_drew)); exact HO543.out⟩, ⟨by (with_reducible repeat (first | refine blk_drewN ?_ _ | refine blk_drew ?_ | refine blk_alloc ?_ _)); exact BK538.out⟩, ⟨by (with_reducible repeat (first | refine blk_drewN ?_ _ | refine blk_drew ?_ | refine blk_alloc ?_ _)); exact BK548.out⟩, ⟨by repeat (first | (with_reducible first | exact HB.out | apply below_alloc | apply pw_below_drewN | apply below_drew1 | refine below_set ?_ GE538.out | refine below_set ?_ GE548.out) | exact HB.out)⟩⟩
         case rest =>
          clear HC16
          try clear c1
          try clear p2
          try clear c3
          try clear c4
          try clear c5
          try clear p5
          try clear q5
          try clear hx5
          try clear qi5
          try clear p6
          try clear c9
          try clear c9b0
          try clear c9b1
          try clear c10
          try clear c10b0
          try clear c10b1
          try clear c12
          try clear c12b0
          try clear c12b1
          try clear c14
          try clear c14b0
          try clear c14b1
          try clear c15
          try clear c15b0
          try clear c15b1
          try clear c35
          try clear c37
          try clear c37b0
          try clear c37b1
          try clear c38
          try clear c38b0
          try clear c38b1
          try clear c40
          try clear c40b0
          try clear c40b1
          try clear c44
          try clear hcz36_0
          try clear hcz36_1
          try clear hcz36_10
          try clear hcz36_11
          try clear hcz36_2
          try clear hcz36_3
          try clear hcz36_4
          try clear hcz36_5
          try clear hcz36_6
          try clear hcz36_7
          try clear hcz36_8
          try clear hcz36_9
          try clear hcz45_0
          try clear hcz45_1
          try clear hcz45_10
          try clear hcz45_11
          try clear hcz45_2
          try clear hcz45_3
          try clear hcz45_4
          try clear hcz45_5
          try clear hcz45_6
          try clear hcz45_7
          try clear hcz45_8
          try clear hcz45_9
          try clear hfz36_0
          try clear hfz36_1
          try clear hfz36_10
          try clear hfz36_11
          try clear hfz36_2
          try clear hfz36_3
          try clear hfz36_4
          try clear hfz36_5
          try clear hfz36_6
          try clear hfz36_7
          try clear hfz36_8
          try clear hfz36_9
          try clear hfz45_0
          try clear hfz45_1
          try clear hfz45_10
          try clear hfz45_11
          try clear hfz45_2
          try clear hfz45_3
          try clear hfz45_4
          try clear hfz45_5
          try clear hfz45_6
          try clear hfz45_7
          try clear hfz45_8
          try clear hfz45_9
          try clear hx540_0
          try clear hx546_0
          try clear hx547_0
          try clear hx551_0
          try clear p540
          try clear p546
          try clear p547
          try clear p551
          try clear q540
          try clear q546
          try clear q547
          try clear q551
          obtain ⟨kq, x549000_15, x549002_15, HA, HJ15, HO_5, BK538, BK548, HB⟩ := hcut
          cases kq with
          | zero => exact absurd HA.out (by simp [magnetoref04_Frame.j1])
          | succ kj15 =>
           have H := HA.out
           clear HA
           simp only [magnetoref04_Frame.j1] at H
           by_cases c46 : 0 < (t541.length : Int)
           ·
            rw [if_pos c46] at H
            have c46b0 : decide (0 < (t541.length : Int)) = true := decide_eq_true c46
            have c46b1 : decide (0 < t541.length) = true := decide_eq_true (by omega)
            clear c46
            by_cases c47 : 1 < (t541.length : Int)
            ·
             rw [if_pos c47] at H
             have c47b0 : decide (1 < (t541.length : Int)) = true := decide_eq_true c47
             have c47b1 : decide (1 < t541.length) = true := decide_eq_true (by omega)
             clear c47
             by_cases c48 : 2 < (t541.length : Int)
             ·
              rw [if_pos c48] at H
              have c48b0 : decide (2 < (t541.length : Int)) = true := decide_eq_true c48
              have c48b1 : decide (2 < t541.length) = true := decide_eq_true (by omega)
              clear c48
              obtain ⟨ji49, hji49⟩ : ∃ j_ : Int, (wrap64 ((wrap64 ((wrap64 ((rd t541 0) + (rd t541 1))) + (rd t541 2))) - 4)) = j_ := ⟨_, rfl⟩
              replace H : (if 0 ≤ (ji49) then (if (ji49) ≤ (wrap64 ((wrap64 ((rd t541 0) + (rd t541 1))) + (rd t541 2))) then (if (wrap64 ((wrap64 ((rd t541 0) + (rd t541 1))) + (rd t541 2))) ≤ (l0.length : Int) then ((magnetoref04_Value.f kj15 ((l0.take ((wrap64 ((wrap64 ((rd t541 0) + (rd t541 1))) + (rd t541 2))) : Int).toNat).drop ((ji49) : Int).toNat)).bind fun t556 => (if t556 > 8 then (magnetoref04_Frame.j2 kj15 l0 t541 (wrap64 ((wrap64 ((rd t541 0) + (rd t541 1))) + (rd t541 2))) x549000_15 ((rd l0 13) == 1) x549002_15 8 0 0 0 0 0 0 0 0) else (magnetoref04_Frame.j2 kj15 l0 t541 (wrap64 ((wrap64 ((rd t541 0) + (rd t541 1))) + (rd t541 2))) x549000_15 ((rd l0 13) == 1) x549002_15 t556 0 0 0 0 0 0 0 0))) else (none)) else (none)) else (none)) = some (r1, r2, r3, r4, r5, r6, r7, r8, r9, r10, r11, r12, r13) := by first | (rw [hji49] at H; exact H) | (simp only [hji49] at H ⊢; exact H)
              have hji49w : (IntKind.i64.wrap ((wrap64 ((wrap64 ((rd t541 0) + (rd t541 1))) + (rd t541 2))) - 4)) = ji49 := (i64_w _).trans hji49
              by_cases c50 : 0 ≤ (ji49)
              ·
               rw [if_pos c50] at H
               have c50b0 := eq_true c50
               have c50b1 : decide (0 ≤ (ji49)) = true := decide_eq_true c50
               clear c50
               by_cases c51 : (ji49) ≤ (wrap64 ((wrap64 ((rd t541 0) + (rd t541 1))) + (rd t541 2)))
               ·
                rw [if_pos c51] at H
                have c51b0 := eq_true c51
                have c51b1 : decide ((ji49) ≤ (wrap64 ((wrap64 ((rd t541 0) + (rd t541 1))) + (rd t541 2)))) = true := decide_eq_true c51
                by_cases c52 : (wrap64 ((wrap64 ((rd t541 0) + (rd t541 1))) + (rd t541 2))) ≤ (l0.length : Int)
                ·
                 rw [if_pos c52] at H
                 have c52b0 := eq_true c52
                 have c52b1 : decide ((wrap64 ((wrap64 ((rd t541 0) + (rd t541 1))) + (rd t541 2))) ≤ (l0.length : Int)) = true := decide_eq_true c52
                 replace H := Option.bind_eq_some_iff.mp H
                 obtain ⟨t556, A530, H⟩ := H
                 replace H : (if t556 > 8 then (magnetoref04_Frame.j2 kj15 l0 t541 (wrap64 ((wrap64 ((rd t541 0) + (rd t541 1))) + (rd t541 2))) x549000_15 ((rd l0 13) == 1) x549002_15 8 0 0 0 0 0 0 0 0) else (magnetoref04_Frame.j2 kj15 l0 t541 (wrap64 ((wrap64 ((rd t541 0) + (rd t541 1))) + (rd t541 2))) x549000_15 ((rd l0 13) == 1) x549002_15 t556 0 0 0 0 0 0 0 0)) = some (r1, r2, r3, r4, r5, r6, r7, r8, r9, r10, r11, r12, r13) := H
                 have A53 := Aside0.mk A530
                 clear A530
                 have HC54 := Aside0.mk H
                 clear H
                 try go_wp2
                 have n0_ := Aside0.mk (Kd.R_drew HO_5.out)
                 have n1_ := Aside0.mk (blk_drew BK538.out)
                 have n2_ := Aside0.mk (blk_drew BK548.out)
                 have n3_ := Aside0.mk (below_drew1 HB.out)
                 clear HO_5
                 clear BK538
                 clear BK548
                 clear HB
                 have HO_5 := n0_
                 have BK538 := n1_
                 have BK548 := n2_
                 have HB := n3_
                 clear n0_ n1_ n2_ n3_
                 obtain ⟨Ao56, co56, eo56⟩ := Kd.R_slice HO_5.out
                 (first | subst eo56 | (injection eo56 with f1_ f2_ f3_; have f4_ := f1_.symm; have f5_ := f3_.symm; clear f1_ f2_ f3_; subst f4_; subst f5_))
                 have p552 : 0 ≤ (0 : Int) := (by omega)
                 have q552 : 0 < (t541.length : Int) := of_decide_eq_true (by first | (with_reducible assumption) | assumption)
                 obtain ⟨ad552, e552, hx552_0⟩ := Kd.at_int (Kd.R_reads' HO_5.out).2.2 0 p552 q552
                 cases e552
                 have qi552 : (0 < t541.length) = True := eq_true (by omega)
                 (try rw [show ((0 : Int)).toNat = 0 from rfl] at hx552_0)
                 (try rw [Addr.add_zero'] at hx552_0)
                 replace p552 := eq_true p552
                 replace q552 := eq_true q552
                 have p553 : 0 ≤ (1 : Int) := (by omega)
                 have q553 : 1 < (t541.length : Int) := of_decide_eq_true (by first | (with_reducible assumption) | assumption)
                 obtain ⟨ad553, e553, hx553_0⟩ := Kd.at_int (Kd.R_reads' HO_5.out).2.2 1 p553 q553
                 obtain rfl : ad552 = ad553 := (by injection e553)
                 (try simp only [show (1 : Int).toNat = 1 from rfl, Nat.reduceMul, Nat.reduceEqDiff, Go.Addr.add, ↓reduceIte] at hx553_0)
                 have qi553 : (1 < t541.length) = True := eq_true (by omega)
                 (try rw [show ((1 : Int)).toNat = 1 from rfl] at hx553_0)
                 replace p553 := eq_true p553
                 replace q553 := eq_true q553
                 have p554 : 0 ≤ (2 : Int) := (by omega)
                 have q554 : 2 < (t541.length : Int) := of_decide_eq_true (by first | (with_reducible assumption) | assumption)
                 obtain ⟨ad554, e554, hx554_0⟩ := Kd.at_int (Kd.R_reads' HO_5.out).2.2 2 p554 q554
                 obtain rfl : ad552 = ad554 := (by injection e554)
                 (try simp only [show (2 : Int).toNat = 2 from rfl, Nat.reduceMul, Nat.reduceEqDiff, Go.Addr.add, ↓reduceIte] at hx554_0)
                 have qi554 : (2 < t541.length) = True := eq_true (by omega)
                 (try rw [show ((2 : Int)).toNat = 2 from rfl] at hx554_0)
                 replace p554 := eq_true p554
                 replace q554 := eq_true q554
                 refine start_ (n := 12) (S := fun w' => w'.cell? ad552 = some (.int .i64 (rd t541 0)) ∧ w'.cell? ⟨ad552.block, ad552.off + 1, none⟩ = some (.int .i64 (rd t541 1)) ∧ w'.cell? ⟨ad552.block, ad552.off + 2, none⟩ = some (.int .i64 (rd t541 2))) (ds := []) #[false, false, false, false, false, false, false, false, false, false, false, false] (by kernel_rfl) rfl rfl ⟨hx552_0, hx553_0, hx554_0⟩ (fun hHeld => ?_); refine with_tabW magnetoref04_Frame.tab11 magnetoref04_Frame.bits11 (fun HT_ HW_ => ?_)
                 generalize wc.drew = w55 at HO_5 BK538 BK548 HB hx552_0 hx553_0 hx554_0 hHeld ⊢
                 refine pure_ (i := 0) (N := some 54) (v := ?_) (a' := ?_) #[true, false, false, false, false, false, false, false, false, false, false, false] rfl rfl (any_of HT_.out (by kernel_rfl)) (fun _ _ _ h => h) (Or.inl ⟨by rfl, ?_⟩) ?_ ?_
                 rotate_left
                 ·
                  intro w'
                  go_simp
                  with_reducible rfl
                 rotate_left
                 ·
                  simp only [Act.put, List.setIfInBounds_toArray, List.set_cons_zero, List.set_cons_succ, i64_w, i32_w]
                  rfl
                 refine pure_ (i := 1) (N := some 55) (v := ?_) (a' := ?_) #[true, true, false, false, false, false, false, false, false, false, false, false] rfl rfl (any_of HT_.out (by kernel_rfl)) (fun _ _ _ h => h) (Or.inl ⟨by rfl, ?_⟩) ?_ ?_
                 rotate_left
                 ·
                  intro w'
                  go_simp
                  with_reducible rfl
                 rotate_left
                 ·
                  simp only [Act.put, List.setIfInBounds_toArray, List.set_cons_zero, List.set_cons_succ, i64_w, i32_w]
                  rfl
                 refine pure_ (i := 3) (N := some 57) (v := ?_) (a' := ?_) #[true, true, false, true, false, false, false, false, false, false, false, false] rfl rfl (any_of HT_.out (by kernel_rfl)) (fun _ _ _ h => h) (Or.inl ⟨by rfl, ?_⟩) ?_ ?_
                 rotate_left
                 ·
                  intro w'
                  go_simp
                  with_reducible rfl
                 rotate_left
                 ·
                  simp only [Act.put, List.setIfInBounds_toArray, List.set_cons_zero, List.set_cons_succ, i64_w, i32_w]
                  rfl
                 refine pure_ (i := 4) (N := some 58) (v := ?_) (a' := ?_) #[true, true, false, true, true, false, false, false, false, false, false, false] rfl rfl (any_of HT_.out (by kernel_rfl)) (fun _ _ _ h => h) (Or.inl ⟨by rfl, ?_⟩) ?_ ?_
                 rotate_left
                 ·
                  intro w'
                  go_simp
                  with_reducible rfl
                 rotate_left
                 ·
                  simp only [Act.put, List.setIfInBounds_toArray, List.set_cons_zero, List.set_cons_succ, i64_w, i32_w]
                  rfl
                 refine pure_ (i := 7) (N := some 61) (v := ?_) (a' := ?_) #[true, true, false, true, true, false, false, true, false, false, false, false] rfl rfl (any_of HT_.out (by kernel_rfl)) (fun _ _ _ h => h) (Or.inl ⟨by rfl, ?_⟩) ?_ ?_
                 rotate_left
                 ·
                  intro w'
                  go_simp
                  with_reducible rfl
                 rotate_left
                 ·
                  simp only [Act.put, List.setIfInBounds_toArray, List.set_cons_zero, List.set_cons_succ, i64_w, i32_w]
                  rfl
                 refine pure_ (i := 8) (N := some 62) (v := ?_) (a' := ?_) #[true, true, false, true, true, false, false, true, true, false, false, false] rfl rfl (any_of HT_.out (by kernel_rfl)) (fun _ _ _ h => h) (Or.inl ⟨by rfl, ?_⟩) ?_ ?_
                 rotate_left
                 ·
                  intro w'
                  go_simp
                  with_reducible rfl
                 rotate_left
                 ·
                  simp only [Act.put, List.setIfInBounds_toArray, List.set_cons_zero, List.set_cons_succ, i64_w, i32_w]
                  rfl
                 refine take_ (i := 2) (N := some 56) (v := ?_) (a' := ?_) #[true, true, true, true, true, false, false, true, true, false, false, false] rfl rfl (take_ofW HT_.out HW_.out (by kernel_rfl)) (fun _ _ _ h => h) (Or.inl ⟨by rfl, ?_⟩) hHeld ?_ ?_
                 rotate_left
                 ·
                  rintro w' ⟨s0, s1, s2⟩
                  go_simp
                  with_reducible rfl
                 rotate_left
                 ·
                  simp only [Act.put, List.setIfInBounds_toArray, List.set_cons_zero, List.set_cons_succ, i64_w, i32_w]
                  rfl
                 refine take_ (i := 5) (N := some 59) (v := ?_) (a' := ?_) #[true, true, true, true, true, true, false, true, true, false, false, false] rfl rfl (take_ofW HT_.out HW_.out (by kernel_rfl)) (fun _ _ _ h => h) (Or.inl ⟨by rfl, ?_⟩) hHeld ?_ ?_
                 rotate_left
                 ·
                  rintro w' ⟨s0, s1, s2⟩
                  go_simp
                  with_reducible rfl
                 rotate_left
                 ·
                  simp only [Act.put, List.setIfInBounds_toArray, List.set_cons_zero, List.set_cons_succ, i64_w, i32_w]
                  rfl
                 refine pure_ (i := 6) (N := some 60) (v := ?_) (a' := ?_) #[true, true, true, true, true, true, true, true, true, false, false, false] rfl rfl (any_of HT_.out (by kernel_rfl)) (fun _ _ _ h => h) (Or.inl ⟨by rfl, ?_⟩) ?_ ?_
                 rotate_left
                 ·
                  intro w'
                  go_simp
                  with_reducible rfl
                 rotate_left
                 ·
                  simp only [Act.put, List.setIfInBounds_toArray, List.set_cons_zero, List.set_cons_succ, i64_w, i32_w]
                  rfl
                 refine take_ (i := 9) (N := some 63) (v := ?_) (a' := ?_) #[true, true, true, true, true, true, true, true, true, true, false, false] rfl rfl (take_ofW HT_.out HW_.out (by kernel_rfl)) (fun _ _ _ h => h) (Or.inl ⟨by rfl, ?_⟩) hHeld ?_ ?_
                 rotate_left
                 ·
                  rintro w' ⟨s0, s1, s2⟩
                  go_simp
                  with_reducible rfl
                 rotate_left
                 ·
                  simp only [Act.put, List.setIfInBounds_toArray, List.set_cons_zero, List.set_cons_succ, i64_w, i32_w]
                  rfl
                 refine pure_ (i := 10) (N := some 64) (v := ?_) (a' := ?_) #[true, true, true, true, true, true, true, true, true, true, true, false] rfl rfl (any_of HT_.out (by kernel_rfl)) (fun _ _ _ h => h) (Or.inl ⟨by rfl, ?_⟩) ?_ ?_
                 rotate_left
                 ·
                  intro w'
                  go_simp
                  with_reducible rfl
                 rotate_left
                 ·
                  simp only [Act.put, List.setIfInBounds_toArray, List.set_cons_zero, List.set_cons_succ, i64_w, i32_w]
                  rfl
                 refine pure_ (i := 11) (N := some 7) (v := ?_) (a' := ?_) #[true, true, true, true, true, true, true, true, true, true, true, true] rfl rfl (any_of HT_.out (by kernel_rfl)) (fun _ _ _ h => h) (Or.inl ⟨by rfl, ?_⟩) ?_ ?_
                 rotate_left
                 ·
                  intro w'
                  go_simp
                  with_reducible rfl
                 rotate_left
                 ·
                  simp only [Act.put, List.setIfInBounds_toArray, List.set_cons_zero, List.set_cons_succ, i64_w, i32_w]
                  rfl
                 refine done_ (done_of HT_.out (by kernel_rfl)) ?_
                 obtain ⟨i057, hi057, _, hsz57, _⟩ := info_parts info3
                 obtain ⟨A57, hcut57, hA57, hC57⟩ := print_mid_of (P := Try.prog) (Value.int .i64) 0 25 3 .i64 .i64 Try.underlying25 hi057 hsz57 (some ad540) c0 l0 (ji49) (wrap64 ((wrap64 ((rd t541 0) + (rd t541 1))) + (rd t541 2))) (of_decide_eq_true (by first | (with_reducible assumption) | assumption)) (by first | omega | exact of_decide_eq_true (by first | (with_reducible assumption) | assumption)) (of_decide_eq_true (by first | (with_reducible assumption) | assumption)) HC0.out
                 have HR555 := Aside0.mk (Kd.C_of_reads (h1 := fun _ => rfl) (hA57 _ (Kd.reads_of_C HR0.out)))
                 have HC555 := Aside0.mk hC57
                 clear hA57 hC57 hi057 hsz57
                 go_upto_if 74 with (first | ((with_reducible refine gate_callee (f := 59) rfl ?_); refine goesL_ (some 70) rfl rfl Try.func59 (by kernel_rfl) rfl #[.slice A57 ((l0.take ((wrap64 ((wrap64 ((rd t541 0) + (rd t541 1))) + (rd t541 2))) : Int).toNat).drop ((ji49) : Int).toNat).length (c0 - (ji49).toNat)] rfl (by (try simp only [List.map_toArray, List.map_cons, List.map_nil]); first | done | (rw [show ((l0.take ((wrap64 ((wrap64 ((rd t541 0) + (rd t541 1))) + (rd t541 2))) : Int).toNat).drop ((ji49) : Int).toNat).length = ((wrap64 ((wrap64 ((rd t541 0) + (rd t541 1))) + (rd t541 2))).toNat - (ji49).toNat) from (by rw [List.length_drop, List.length_take]; have h_ : ((wrap64 ((wrap64 ((rd t541 0) + (rd t541 1))) + (rd t541 2))) : Int) ≤ (l0.length : Int) := of_decide_eq_true (by first | (with_reducible assumption) | assumption); omega)] <;> rfl) | (simp only [hji49]; rfl) | rfl | (simp only [List.length_drop, List.length_take]; rfl)) ?_; (with_reducible refine (magnetoref04_Value.calls kj15 _ _ ((l0.take ((wrap64 ((wrap64 ((rd t541 0) + (rd t541 1))) + (rd t541 2))) : Int).toNat).drop ((ji49) : Int).toNat) t556 _ ?side1 ?side2 A53.out).mono ?_); (case side1 => repeat (first | exact (Kd.C_below HR555.out HB.out) | (with_reducible refine Kd.C_alloc ?_ _) | (with_reducible refine Kd.C_drewN ?_ _) | (with_reducible refine Kd.C_drew ?_))); (case side2 => exact HC555.out); rintro e w' ⟨rfl, ⟨nd, rfl⟩⟩; refine ⟨_, rfl, ?_⟩; (try (rw [drewN_self w55]; generalize hq_ : World.drewN w55 _ = w55; have n0_ : Aside0 (Kd.R (Kd.int .i64) 3 w55 w.heap.size (fun _ => True) (.slice (some ad552) t541.length co56) t541) := ⟨by rw [← hq_]; exact (by (with_reducible repeat (first | apply Kd.R_alloc | apply Kd.R_drewN | apply Kd.R_drew)); exact HO_5.out)⟩; have n1_ : Aside0 (w55.heap[gb538]? = some (.cells #[.int .i64 0, .bool false, .bool false, .int .i64 0, .int .u8 0, .int .u8 0, .int .u8 0, .int .u8 0, .int .u8 0, .int .u8 0, .int .u8 0, .int .u8 0] 24 (0, 0))) := ⟨by rw [← hq_]; exact (by (with_reducible repeat (first | refine blk_drewN ?_ _ | refine blk_drew ?_ | refine blk_alloc ?_ _)); exact BK538.out)⟩; have n2_ : Aside0 (w55.heap[gb548]? = some (.cells #[.int .i64 x549000_15, .bool ((rd l0 13) == 1), .bool x549002_15, .int .i64 0, .int .u8 0, .int .u8 0, .int .u8 0, .int .u8 0, .int .u8 0, .int .u8 0, .int .u8 0, .int .u8 0] 24 (0, 0))) := ⟨by rw [← hq_]; exact (by (with_reducible repeat (first | refine blk_drewN ?_ _ | refine blk_drew ?_ | refine blk_alloc ?_ _)); exact BK548.out)⟩; have n3_ : Aside0 (Below w.heap.size w w55) := ⟨by rw [← hq_]; exact (by repeat (first | (with_reducible first | exact HB.out | apply below_alloc | apply pw_below_drewN | apply below_drew1 | refine below_set ?_ GE538.out | refine below_set ?_ GE548.out) | exact HB.out))⟩; clear HO_5 BK538 BK548 HB hq_; have HO_5 := n0_; have BK538 := n1_; have BK548 := n2_; have HB := n3_; clear n0_ n1_ n2_ n3_)); have hnb58 := NB548_538.out; have hnc58 := NB538_548.out; have hcz59_0 : w55.cell? ⟨gb548, 0, none⟩ = some (.int .i64 x549000_15) := (blk_cell BK548.out 0).trans rfl; have hcz59_1 : w55.cell? ⟨gb548, 1, none⟩ = some (.bool ((rd l0 13) == 1)) := (blk_cell BK548.out 1).trans rfl; have hcz59_2 : w55.cell? ⟨gb548, 2, none⟩ = some (.bool x549002_15) := (blk_cell BK548.out 2).trans rfl; have hcz59_3 : w55.cell? ⟨gb548, 3, none⟩ = some (.int .i64 0) := (blk_cell BK548.out 3).trans rfl; have hcz59_4 : w55.cell? ⟨gb548, 4, none⟩ = some (.int .u8 0) := (blk_cell BK548.out 4).trans rfl; have hcz59_5 : w55.cell? ⟨gb548, 5, none⟩ = some (.int .u8 0) := (blk_cell BK548.out 5).trans rfl; have hcz59_6 : w55.cell? ⟨gb548, 6, none⟩ = some (.int .u8 0) := (blk_cell BK548.out 6).trans rfl; have hcz59_7 : w55.cell? ⟨gb548, 7, none⟩ = some (.int .u8 0) := (blk_cell BK548.out 7).trans rfl; have hcz59_8 : w55.cell? ⟨gb548, 8, none⟩ = some (.int .u8 0) := (blk_cell BK548.out 8).trans rfl; have hcz59_9 : w55.cell? ⟨gb548, 9, none⟩ = some (.int .u8 0) := (blk_cell BK548.out 9).trans rfl; have hcz59_10 : w55.cell? ⟨gb548, 10, none⟩ = some (.int .u8 0) := (blk_cell BK548.out 10).trans rfl; have hcz59_11 : w55.cell? ⟨gb548, 11, none⟩ = some (.int .u8 0) := (blk_cell BK548.out 11).trans rfl; have hfz59_0 := blk_frozen BK548.out 0; have hfz59_1 := blk_frozen BK548.out 1; have hfz59_2 := blk_frozen BK548.out 2; have hfz59_3 := blk_frozen BK548.out 3; have hfz59_4 := blk_frozen BK548.out 4; have hfz59_5 := blk_frozen BK548.out 5; have hfz59_6 := blk_frozen BK548.out 6; have hfz59_7 := blk_frozen BK548.out 7; have hfz59_8 := blk_frozen BK548.out 8; have hfz59_9 := blk_frozen BK548.out 9; have hfz59_10 := blk_frozen BK548.out 10; have hfz59_11 := blk_frozen BK548.out 11))
                 (try simp only [Act.put, List.setIfInBounds_toArray, List.set_cons_zero, List.set_cons_succ])
                 go_cut [] (fun wc => ∃ (kq : Nat) (x549003_53 : Int), Aside0 (magnetoref04_Frame.j2 kq l0 t541 (wrap64 ((wrap64 ((rd t541 0) + (rd t541 1))) + (rd t541 2))) x549000_15 ((rd l0 13) == 1) x549002_15 x549003_53 0 0 0 0 0 0 0 0 = some (r1, r2, r3, r4, r5, r6, r7, r8, r9, r10, r11, r12, r13)) ∧ Aside0 (kq ≤ kj15) ∧ Aside0 (Kd.R (Kd.int .i64) 3 wc w.heap.size (fun _ => True) (.slice (some ad552) t541.length co56) t541) ∧ Aside0 (wc.heap[gb538]? = some (.cells #[.int .i64 0, .bool false, .bool false, .int .i64 0, .int .u8 0, .int .u8 0, .int .u8 0, .int .u8 0, .int .u8 0, .int .u8 0, .int .u8 0, .int .u8 0] 24 (0, 0))) ∧ Aside0 (wc.heap[gb548]? = some (.cells #[.int .i64 x549000_15, .bool ((rd l0 13) == 1), .bool x549002_15, .int .i64 x549003_53, .int .u8 0, .int .u8 0, .int .u8 0, .int .u8 0, .int .u8 0, .int .u8 0, .int .u8 0, .int .u8 0] 24 (0, 0))) ∧ Aside0 (Below w.heap.size w wc))
                 case first =>
                  have H := HC54.out
                  clear HC54
                  by_cases c60 : t556 > 8
                  ·
                   rw [if_pos c60] at H
                   have c60b0 : decide (8 < t556) = true := decide_eq_true c60
                   clear c60
                   (first | rw [c60b0] | (simp only [i64_w, i32_w]; rw [c60b0]) | skip)
                   have H' := Aside0.mk H
                   clear H
                   have hnb61 := NB548_538.out
                   have hnc61 := NB538_548.out
                   have hcz62_0 : w55.cell? ⟨gb548, 0, none⟩ = some (.int .i64 x549000_15) := (blk_cell BK548.out 0).trans rfl
                   have hcz62_1 : w55.cell? ⟨gb548, 1, none⟩ = some (.bool ((rd l0 13) == 1)) := (blk_cell BK548.out 1).trans rfl
                   have hcz62_2 : w55.cell? ⟨gb548, 2, none⟩ = some (.bool x549002_15) := (blk_cell BK548.out 2).trans rfl
                   have hcz62_3 : w55.cell? ⟨gb548, 3, none⟩ = some (.int .i64 0) := (blk_cell BK548.out 3).trans rfl
                   have hcz62_4 : w55.cell? ⟨gb548, 4, none⟩ = some (.int .u8 0) := (blk_cell BK548.out 4).trans rfl
                   have hcz62_5 : w55.cell? ⟨gb548, 5, none⟩ = some (.int .u8 0) := (blk_cell BK548.out 5).trans rfl
                   have hcz62_6 : w55.cell? ⟨gb548, 6, none⟩ = some (.int .u8 0) := (blk_cell BK548.out 6).trans rfl
                   have hcz62_7 : w55.cell? ⟨gb548, 7, none⟩ = some (.int .u8 0) := (blk_cell BK548.out 7).trans rfl
                   have hcz62_8 : w55.cell? ⟨gb548, 8, none⟩ = some (.int .u8 0) := (blk_cell BK548.out 8).trans rfl
                   have hcz62_9 : w55.cell? ⟨gb548, 9, none⟩ = some (.int .u8 0) := (blk_cell BK548.out 9).trans rfl
                   have hcz62_10 : w55.cell? ⟨gb548, 10, none⟩ = some (.int .u8 0) := (blk_cell BK548.out 10).trans rfl
                   have hcz62_11 : w55.cell? ⟨gb548, 11, none⟩ = some (.int .u8 0) := (blk_cell BK548.out 11).trans rfl
                   have hfz62_0 := blk_frozen BK548.out 0
                   have hfz62_1 := blk_frozen BK548.out 1
                   have hfz62_2 := blk_frozen BK548.out 2
                   have hfz62_3 := blk_frozen BK548.out 3
                   have hfz62_4 := blk_frozen BK548.out 4
                   have hfz62_5 := blk_frozen BK548.out 5
                   have hfz62_6 := blk_frozen BK548.out 6
                   have hfz62_7 := blk_frozen BK548.out 7
                   have hfz62_8 := blk_frozen BK548.out 8
                   have hfz62_9 := blk_frozen BK548.out 9
                   have hfz62_10 := blk_frozen BK548.out 10
                   have hfz62_11 := blk_frozen BK548.out 11
                   go_wp2
                   go_meet
                   case rel => exact ⟨_, (8), H', ⟨by have := HJ2.out; have := HJ15.out; first | omega | exact Nat.le_refl _⟩, ⟨by (with_reducible repeat (first | apply Kd.R_alloc | apply Kd.R_drewN | apply Kd.R_drew)); exact Kd.R_mono (Kd.R_far (p := ⟨gb548, 3, none⟩) (Kd.R_far (p := ⟨gb548, 3, none⟩) (Kd.R_types HO_5.out BK548.out (by decide)) (fun _ hk => hk.2) (.int .i64 t556)) (fun _ hk => hk.2) (.int .i64 8)) (fun _ hk => trivial)⟩, ⟨by (with_reducible repeat (first | refine blk_drewN ?_ _ | refine blk_drew ?_ | refine blk_alloc ?_ _)); refine blk_far ?_ NB538_548.out _; (with_reducible repeat (first | refine blk_drewN ?_ _ | refine blk_drew ?_ | refine blk_alloc ?_ _)); refine blk_far ?_ NB538_548.out _; (with_reducible repeat (first | refine blk_drewN ?_ _ | refine blk_drew ?_ | refine blk_alloc ?_ _)); exact BK538.out⟩, ⟨by (with_reducible repeat (first | refine blk_drewN ?_ _ | refine blk_drew ?_ | refine blk_alloc ?_ _)); refine blk_put (cs := #[.int .i64 x549000_15, .bool ((rd l0 13) == 1), .bool x549002_15, .int .i64 t556, .int .u8 0, .int .u8 0, .int .u8 0, .int .u8 0, .int .u8 0, .int .u8 0, .int .u8 0, .int .u8 0]) ?_ 3 _ rfl; (with_reducible repeat (first | refine blk_drewN ?_ _ | refine blk_drew ?_ | refine blk_alloc ?_ _)); refine blk_put (cs := #[.int .i64 x549000_15, .bool ((rd l0 13) == 1), .bool x549002_15, .int .i64 0, .int .u8 0, .int .u8 0, .int .u8 0, .int .u8 0, .int .u8 0, .int .u8 0, .int .u8 0, .int .u8 0]) ?_ 3 _ rfl; (with_reducible repeat (first | refine blk_drewN ?_ _ | refine blk_drew ?_ | refine blk_alloc ?_ _)); exact BK548.out⟩, ⟨by repeat (first | (with_reducible first | exact HB.out | apply below_alloc | apply pw_below_drewN | apply below_drew1 | refine below_set ?_ GE538.out | refine below_set ?_ GE548.out) | exact HB.out)⟩⟩
                  ·
                   rw [if_neg c60] at H
                   have c60b0 : decide (8 < t556) = false := decide_eq_false c60
                   clear c60
                   (first | rw [c60b0] | (simp only [i64_w, i32_w]; rw [c60b0]) | skip)
                   have H' := Aside0.mk H
                   clear H
                   go_wp2
                   go_meet
                   case rel => exact ⟨_, (t556), H', ⟨by have := HJ2.out; have := HJ15.out; first | omega | exact Nat.le_refl _⟩, ⟨by (with_reducible repeat (first | apply Kd.R_alloc | apply Kd.R_drewN | apply Kd.R_drew)); exact Kd.R_mono (Kd.R_far (p := ⟨gb548, 3, none⟩) (Kd.R_types HO_5.out BK548.out (by decide)) (fun _ hk => hk.2) (.int .i64 t556)) (fun _ hk => trivial)⟩, ⟨by (with_reducible repeat (first | refine blk_drewN ?_ _ | refine blk_drew ?_ | refine blk_alloc ?_ _)); refine blk_far ?_ NB538_548.out _; (with_reducible repeat (first | refine blk_drewN ?_ _ | refine blk_drew ?_ | refine blk_alloc ?_ _)); exact BK538.out⟩, ⟨by (with_reducible repeat (first | refine blk_drewN ?_ _ | refine blk_drew ?_ | refine blk_alloc ?_ _)); refine blk_put (cs := #[.int .i64 x549000_15, .bool ((rd l0 13) == 1), .bool x549002_15, .int .i64 0, .int .u8 0, .int .u8 0, .int .u8 0, .int .u8 0, .int .u8 0, .int .u8 0, .int .u8 0, .int .u8 0]) ?_ 3 _ rfl; (with_reducible repeat (first | refine blk_drewN ?_ _ | refine blk_drew ?_ | refine blk_alloc ?_ _)); exact BK548.out⟩, ⟨by repeat (first | (with_reducible first | exact HB.out | apply below_alloc | apply pw_below_drewN | apply below_drew1 | refine below_set ?_ GE538.out | refine below_set ?_ GE548.out) | exact HB.out)⟩⟩
                 case rest =>
                  clear HC54
                  try clear c1
                  try clear p2
                  try clear c3
                  try clear c4
                  try clear c5
                  try clear p5
                  try clear q5
                  try clear hx5
                  try clear qi5
                  try clear c6
                  try clear p6
                  try clear c9
                  try clear c9b0
                  try clear c9b1
                  try clear c10
                  try clear c10b0
                  try clear c10b1
                  try clear c12
                  try clear c12b0
                  try clear c12b1
                  try clear c14
                  try clear c14b0
                  try clear c14b1
                  try clear c15
                  try clear c15b0
                  try clear c15b1
                  try clear c35
                  try clear c37
                  try clear c37b0
                  try clear c37b1
                  try clear c38
                  try clear c38b0
                  try clear c38b1
                  try clear c40
                  try clear c40b0
                  try clear c40b1
                  try clear c44
                  try clear c46
                  try clear c46b0
                  try clear c46b1
                  try clear c47
                  try clear c47b0
                  try clear c47b1
                  try clear c48
                  try clear c48b0
                  try clear c48b1
                  try clear c50
                  try clear c50b0
                  try clear c50b1
                  try clear c51
                  try clear c51b0
                  try clear c51b1
                  try clear c52
                  try clear c52b0
                  try clear c52b1
                  try clear p54
                  try clear q54
                  try clear hx54
                  try clear p55
                  try clear q55
                  try clear hx55
                  try clear qi55
                  try clear c58
                  try clear c59
                  try clear c60
                  try clear c60b0
                  try clear c61
                  try clear hcz36_0
                  try clear hcz36_1
                  try clear hcz36_10
                  try clear hcz36_11
                  try clear hcz36_2
                  try clear hcz36_3
                  try clear hcz36_4
                  try clear hcz36_5
                  try clear hcz36_6
                  try clear hcz36_7
                  try clear hcz36_8
                  try clear hcz36_9
                  try clear hcz45_0
                  try clear hcz45_1
                  try clear hcz45_10
                  try clear hcz45_11
                  try clear hcz45_2
                  try clear hcz45_3
                  try clear hcz45_4
                  try clear hcz45_5
                  try clear hcz45_6
                  try clear hcz45_7
                  try clear hcz45_8
                  try clear hcz45_9
                  try clear hcz59_0
                  try clear hcz59_1
                  try clear hcz59_10
                  try clear hcz59_11
                  try clear hcz59_2
                  try clear hcz59_3
                  try clear hcz59_4
                  try clear hcz59_5
                  try clear hcz59_6
                  try clear hcz59_7
                  try clear hcz59_8
                  try clear hcz59_9
                  try clear hcz62_0
                  try clear hcz62_1
                  try clear hcz62_10
                  try clear hcz62_11
                  try clear hcz62_2
                  try clear hcz62_3
                  try clear hcz62_4
                  try clear hcz62_5
                  try clear hcz62_6
                  try clear hcz62_7
                  try clear hcz62_8
                  try clear hcz62_9
                  try clear hfz36_0
                  try clear hfz36_1
                  try clear hfz36_10
                  try clear hfz36_11
                  try clear hfz36_2
                  try clear hfz36_3
                  try clear hfz36_4
                  try clear hfz36_5
                  try clear hfz36_6
                  try clear hfz36_7
                  try clear hfz36_8
                  try clear hfz36_9
                  try clear hfz45_0
                  try clear hfz45_1
                  try clear hfz45_10
                  try clear hfz45_11
                  try clear hfz45_2
                  try clear hfz45_3
                  try clear hfz45_4
                  try clear hfz45_5
                  try clear hfz45_6
                  try clear hfz45_7
                  try clear hfz45_8
                  try clear hfz45_9
                  try clear hfz59_0
                  try clear hfz59_1
                  try clear hfz59_10
                  try clear hfz59_11
                  try clear hfz59_2
                  try clear hfz59_3
                  try clear hfz59_4
                  try clear hfz59_5
                  try clear hfz59_6
                  try clear hfz59_7
                  try clear hfz59_8
                  try clear hfz59_9
                  try clear hfz62_0
                  try clear hfz62_1
                  try clear hfz62_10
                  try clear hfz62_11
                  try clear hfz62_2
                  try clear hfz62_3
                  try clear hfz62_4
                  try clear hfz62_5
                  try clear hfz62_6
                  try clear hfz62_7
                  try clear hfz62_8
                  try clear hfz62_9
                  try clear hx540_0
                  try clear hx546_0
                  try clear hx547_0
                  try clear hx551_0
                  try clear hx552_0
                  try clear hx553_0
                  try clear hx554_0
                  try clear p2
                  try clear p5
                  try clear p540
                  try clear p546
                  try clear p547
                  try clear p551
                  try clear p552
                  try clear p553
                  try clear p554
                  try clear p6
                  try clear q5
                  try clear q540
                  try clear q546
                  try clear q547
                  try clear q551
                  try clear q552
                  try clear q553
                  try clear q554
                  obtain ⟨kq, x549003_53, HA, HJ53, HO_5, BK538, BK548, HB⟩ := hcut
                  cases kq with
                  | zero => exact absurd HA.out (by simp [magnetoref04_Frame.j2])
                  | succ kj53 =>
                   have H := HA.out
                   clear HA
                   simp only [magnetoref04_Frame.j2] at H
                   have H' := Aside0.mk H
                   clear H
                   go_wp2
                   go_loopg [8] kj53 (fun kq v8 w' => ∃ (x8_4 : Int) (x549004_4 : Int) (x549005_4 : Int) (x549006_4 : Int) (x549007_4 : Int) (x549008_4 : Int) (x549009_4 : Int) (x549010_4 : Int) (x549011_4 : Int), v8 = .int .i64 x8_4 ∧ Aside0 (magnetoref04_Frame.l0 kq l0 t541 (wrap64 ((wrap64 ((rd t541 0) + (rd t541 1))) + (rd t541 2))) x8_4 x549000_15 ((rd l0 13) == 1) x549002_15 x549003_53 x549004_4 x549005_4 x549006_4 x549007_4 x549008_4 x549009_4 x549010_4 x549011_4 = some (r1, r2, r3, r4, r5, r6, r7, r8, r9, r10, r11, r12, r13)) ∧ Aside0 (kq ≤ kj53) ∧ Aside0 (Kd.R (Kd.int .i64) 3 w' w.heap.size (fun _ => True) (.slice (some ad552) t541.length co56) t541) ∧ Aside0 (w'.heap[gb538]? = some (.cells #[.int .i64 0, .bool false, .bool false, .int .i64 0, .int .u8 0, .int .u8 0, .int .u8 0, .int .u8 0, .int .u8 0, .int .u8 0, .int .u8 0, .int .u8 0] 24 (0, 0))) ∧ Aside0 (w'.heap[gb548]? = some (.cells #[.int .i64 x549000_15, .bool ((rd l0 13) == 1), .bool x549002_15, .int .i64 x549003_53, .int .u8 x549004_4, .int .u8 x549005_4, .int .u8 x549006_4, .int .u8 x549007_4, .int .u8 x549008_4, .int .u8 x549009_4, .int .u8 x549010_4, .int .u8 x549011_4] 24 (0, 0))) ∧ Aside0 (Below w.heap.size w w'))
                   case atStart => exact ⟨(0), (0), (0), (0), (0), (0), (0), (0), (0), (by first | rfl | (simp; done) | (simp [*]; done)), H', ⟨Nat.le_refl _⟩, ⟨by (with_reducible repeat (first | apply Kd.R_alloc | apply Kd.R_drewN | apply Kd.R_drew)); exact HO_5.out⟩, ⟨by (with_reducible repeat (first | refine blk_drewN ?_ _ | refine blk_drew ?_ | refine blk_alloc ?_ _)); exact BK538.out⟩, ⟨by (with_reducible repeat (first | refine blk_drewN ?_ _ | refine blk_drew ?_ | refine blk_alloc ?_ _)); exact BK548.out⟩, ⟨by repeat (first | (with_reducible first | exact HB.out | apply below_alloc | apply pw_below_drewN | apply below_drew1 | refine below_set ?_ GE538.out | refine below_set ?_ GE548.out) | exact HB.out)⟩⟩
                   case round =>
                    clear H'
                    try clear c1
                    try clear p2
                    try clear c3
                    try clear c4
                    try clear c5
                    try clear p5
                    try clear q5
                    try clear hx5
                    try clear qi5
                    try clear c6
                    try clear p6
                    try clear c9
                    try clear c9b0
                    try clear c9b1
                    try clear c10
                    try clear c10b0
                    try clear c10b1
                    try clear c12
                    try clear c12b0
                    try clear c12b1
                    try clear c14
                    try clear c14b0
                    try clear c14b1
                    try clear c15
                    try clear c15b0
                    try clear c15b1
                    try clear c35
                    try clear c37
                    try clear c37b0
                    try clear c37b1
                    try clear c38
                    try clear c38b0
                    try clear c38b1
                    try clear c40
                    try clear c40b0
                    try clear c40b1
                    try clear c44
                    try clear c46
                    try clear c46b0
                    try clear c46b1
                    try clear c47
                    try clear c47b0
                    try clear c47b1
                    try clear c48
                    try clear c48b0
                    try clear c48b1
                    try clear c50
                    try clear c50b0
                    try clear c50b1
                    try clear c51
                    try clear c51b0
                    try clear c51b1
                    try clear c52
                    try clear c52b0
                    try clear c52b1
                    try clear p54
                    try clear q54
                    try clear hx54
                    try clear p55
                    try clear q55
                    try clear hx55
                    try clear qi55
                    try clear c58
                    try clear c59
                    try clear c60
                    try clear c60b0
                    try clear c61
                    try clear hcz36_0
                    try clear hcz36_1
                    try clear hcz36_10
                    try clear hcz36_11
                    try clear hcz36_2
                    try clear hcz36_3
                    try clear hcz36_4
                    try clear hcz36_5
                    try clear hcz36_6
                    try clear hcz36_7
                    try clear hcz36_8
                    try clear hcz36_9
                    try clear hcz45_0
                    try clear hcz45_1
                    try clear hcz45_10
                    try clear hcz45_11
                    try clear hcz45_2
                    try clear hcz45_3
                    try clear hcz45_4
                    try clear hcz45_5
                    try clear hcz45_6
                    try clear hcz45_7
                    try clear hcz45_8
                    try clear hcz45_9
                    try clear hcz59_0
                    try clear hcz59_1
                    try clear hcz59_10
                    try clear hcz59_11
                    try clear hcz59_2
                    try clear hcz59_3
                    try clear hcz59_4
                    try clear hcz59_5
                    try clear hcz59_6
                    try clear hcz59_7
                    try clear hcz59_8
                    try clear hcz59_9
                    try clear hcz62_0
                    try clear hcz62_1
                    try clear hcz62_10
                    try clear hcz62_11
                    try clear hcz62_2
                    try clear hcz62_3
                    try clear hcz62_4
                    try clear hcz62_5
                    try clear hcz62_6
                    try clear hcz62_7
                    try clear hcz62_8
                    try clear hcz62_9
                    try clear hfz36_0
                    try clear hfz36_1
                    try clear hfz36_10
                    try clear hfz36_11
                    try clear hfz36_2
                    try clear hfz36_3
                    try clear hfz36_4
                    try clear hfz36_5
                    try clear hfz36_6
                    try clear hfz36_7
                    try clear hfz36_8
                    try clear hfz36_9
                    try clear hfz45_0
                    try clear hfz45_1
                    try clear hfz45_10
                    try clear hfz45_11
                    try clear hfz45_2
                    try clear hfz45_3
                    try clear hfz45_4
                    try clear hfz45_5
                    try clear hfz45_6
                    try clear hfz45_7
                    try clear hfz45_8
                    try clear hfz45_9
                    try clear hfz59_0
                    try clear hfz59_1
                    try clear hfz59_10
                    try clear hfz59_11
                    try clear hfz59_2
                    try clear hfz59_3
                    try clear hfz59_4
                    try clear hfz59_5
                    try clear hfz59_6
                    try clear hfz59_7
                    try clear hfz59_8
                    try clear hfz59_9
                    try clear hfz62_0
                    try clear hfz62_1
                    try clear hfz62_10
                    try clear hfz62_11
                    try clear hfz62_2
                    try clear hfz62_3
                    try clear hfz62_4
                    try clear hfz62_5
                    try clear hfz62_6
                    try clear hfz62_7
                    try clear hfz62_8
                    try clear hfz62_9
                    try clear hx540_0
                    try clear hx546_0
                    try clear hx547_0
                    try clear hx551_0
                    try clear hx552_0
                    try clear hx553_0
                    try clear hx554_0
                    try clear p2
                    try clear p5
                    try clear p54
                    try clear p540
                    try clear p546
                    try clear p547
                    try clear p55
                    try clear p551
                    try clear p552
                    try clear p553
                    try clear p554
                    try clear p6
                    try clear q5
                    try clear q54
                    try clear q540
                    try clear q546
                    try clear q547
                    try clear q55
                    try clear q551
                    try clear q552
                    try clear q553
                    try clear q554
                    obtain ⟨x8_4, x549004_4, x549005_4, x549006_4, x549007_4, x549008_4, x549009_4, x549010_4, x549011_4, rfl, HA, HK4, HO_5, BK538, BK548, HB⟩ := hrel
                    cases gk with
                    | zero => exact absurd HA.out (by simp [magnetoref04_Frame.l0])
                    | succ k4 =>
                     have H := HA.out
                     clear HA
                     simp only [magnetoref04_Frame.l0] at H
                     by_cases c63 : 3 < (t541.length : Int)
                     ·
                      rw [if_pos c63] at H
                      have c63b0 : decide (3 < (t541.length : Int)) = true := decide_eq_true c63
                      have c63b1 : decide (3 < t541.length) = true := decide_eq_true (by omega)
                      clear c63
                      by_cases c64 : x8_4 < (wrap64 (Int.tdiv (rd t541 3) 8))
                      ·
                       rw [if_pos c64] at H
                       have c64b0 : decide (x8_4 < (wrap64 (Int.tdiv (rd t541 3) 8))) = true := decide_eq_true c64
                       clear c64
                       obtain ⟨ji65, hji65⟩ : ∃ j_ : Int, (wrap64 ((wrap64 ((wrap64 ((rd t541 0) + (rd t541 1))) + (rd t541 2))) + (wrap64 (8 * x8_4)))) = j_ := ⟨_, rfl⟩
                       replace H : (if 0 ≤ (ji65) then (if (ji65) ≤ (wrap64 ((ji65) + 8)) then (if (wrap64 ((ji65) + 8)) ≤ (l0.length : Int) then ((magnetoref04_Value.f k4 ((l0.take ((wrap64 ((ji65) + 8)) : Int).toNat).drop ((ji65) : Int).toNat)).bind fun t559 => (if 0 ≤ x8_4 then (if x8_4 < 8 then (magnetoref04_Frame.l0 k4 l0 t541 (wrap64 ((wrap64 ((rd t541 0) + (rd t541 1))) + (rd t541 2))) (wrap64 (x8_4 + 1)) x549000_15 ((rd l0 13) == 1) x549002_15 x549003_53 (pk x8_4 0 ((t559) % 256) x549004_4) (pk x8_4 1 ((t559) % 256) x549005_4) (pk x8_4 2 ((t559) % 256) x549006_4) (pk x8_4 3 ((t559) % 256) x549007_4) (pk x8_4 4 ((t559) % 256) x549008_4) (pk x8_4 5 ((t559) % 256) x549009_4) (pk x8_4 6 ((t559) % 256) x549010_4) (pk x8_4 7 ((t559) % 256) x549011_4)) else (none)) else (none))) else (none)) else (none)) else (none)) = some (r1, r2, r3, r4, r5, r6, r7, r8, r9, r10, r11, r12, r13) := by first | (rw [hji65] at H; exact H) | (simp only [hji65] at H ⊢; exact H)
                       have hji65w : (IntKind.i64.wrap ((wrap64 ((wrap64 ((rd t541 0) + (rd t541 1))) + (rd t541 2))) + (wrap64 (8 * x8_4)))) = ji65 := (i64_w _).trans hji65
                       by_cases c66 : 0 ≤ (ji65)
                       ·
                        rw [if_pos c66] at H
                        have c66b0 := eq_true c66
                        have c66b1 : decide (0 ≤ (ji65)) = true := decide_eq_true c66
                        clear c66
                        by_cases c67 : (ji65) ≤ (wrap64 ((ji65) + 8))
                        ·
                         rw [if_pos c67] at H
                         have c67b0 := eq_true c67
                         have c67b1 : decide ((ji65) ≤ (wrap64 ((ji65) + 8))) = true := decide_eq_true c67
                         by_cases c68 : (wrap64 ((ji65) + 8)) ≤ (l0.length : Int)
                         ·
                          rw [if_pos c68] at H
                          have c68b0 := eq_true c68
                          have c68b1 : decide ((wrap64 ((ji65) + 8)) ≤ (l0.length : Int)) = true := decide_eq_true c68
                          replace H := Option.bind_eq_some_iff.mp H
                          obtain ⟨t559, A690, H⟩ := H
                          replace H : (if 0 ≤ x8_4 then (if x8_4 < 8 then (magnetoref04_Frame.l0 k4 l0 t541 (wrap64 ((wrap64 ((rd t541 0) + (rd t541 1))) + (rd t541 2))) (wrap64 (x8_4 + 1)) x549000_15 ((rd l0 13) == 1) x549002_15 x549003_53 (pk x8_4 0 ((t559) % 256) x549004_4) (pk x8_4 1 ((t559) % 256) x549005_4) (pk x8_4 2 ((t559) % 256) x549006_4) (pk x8_4 3 ((t559) % 256) x549007_4) (pk x8_4 4 ((t559) % 256) x549008_4) (pk x8_4 5 ((t559) % 256) x549009_4) (pk x8_4 6 ((t559) % 256) x549010_4) (pk x8_4 7 ((t559) % 256) x549011_4)) else (none)) else (none)) = some (r1, r2, r3, r4, r5, r6, r7, r8, r9, r10, r11, r12, r13) := H
                          have A69 := Aside0.mk A690
                          clear A690
                          by_cases c70 : 0 ≤ x8_4
                          ·
                           rw [if_pos c70] at H
                           have c70b0 : decide (0 ≤ x8_4) = true := decide_eq_true c70
                           clear c70
                           by_cases c71 : x8_4 < 8
                           ·
                            rw [if_pos c71] at H
                            have c71b0 : decide (x8_4 < 8) = true := decide_eq_true c71
                            clear c71
                            have H' := Aside0.mk H
                            clear H
                            have p557 : 0 ≤ (3 : Int) := (by omega)
                            have q557 : 3 < (t541.length : Int) := of_decide_eq_true (by first | (with_reducible assumption) | assumption)
                            obtain ⟨ad557, e557, hx557_0⟩ := Kd.at_int (Kd.R_reads' HO_5.out).2.2 3 p557 q557
                            obtain rfl : ad552 = ad557 := (by injection e557)
                            (try simp only [show (3 : Int).toNat = 3 from rfl, Nat.reduceMul, Nat.reduceEqDiff, Go.Addr.add, ↓reduceIte] at hx557_0)
                            have qi557 : (3 < t541.length) = True := eq_true (by omega)
                            (try rw [show ((3 : Int)).toNat = 3 from rfl] at hx557_0)
                            replace p557 := eq_true p557
                            replace q557 := eq_true q557
                            obtain ⟨i072, hi072, _, hsz72, _⟩ := info_parts info3
                            obtain ⟨A72, hcut72, hA72, hC72⟩ := print_mid_of (P := Try.prog) (Value.int .i64) 0 25 3 .i64 .i64 Try.underlying25 hi072 hsz72 (some ad540) c0 l0 (ji65) (wrap64 ((ji65) + 8)) (of_decide_eq_true (by first | (with_reducible assumption) | assumption)) (by first | omega | exact of_decide_eq_true (by first | (with_reducible assumption) | assumption)) (of_decide_eq_true (by first | (with_reducible assumption) | assumption)) HC0.out
                            have HR558 := Aside0.mk (Kd.C_of_reads (h1 := fun _ => rfl) (hA72 _ (Kd.reads_of_C HR0.out)))
                            have HC558 := Aside0.mk hC72
                            clear hA72 hC72 hi072 hsz72
                            go_wp2_with (first | ((with_reducible refine gate_callee (f := 59) rfl ?_); refine goesL_ (some 96) rfl rfl Try.func59 (by kernel_rfl) rfl #[.slice A72 ((l0.take ((wrap64 ((ji65) + 8)) : Int).toNat).drop ((ji65) : Int).toNat).length (c0 - (ji65).toNat)] rfl (by (try simp only [List.map_toArray, List.map_cons, List.map_nil]); first | done | (rw [show ((l0.take ((wrap64 ((ji65) + 8)) : Int).toNat).drop ((ji65) : Int).toNat).length = ((wrap64 ((ji65) + 8)).toNat - (ji65).toNat) from (by rw [List.length_drop, List.length_take]; have h_ : ((wrap64 ((ji65) + 8)) : Int) ≤ (l0.length : Int) := of_decide_eq_true (by first | (with_reducible assumption) | assumption); omega)] <;> rfl) | (simp only [hji65]; rfl) | rfl | (simp only [List.length_drop, List.length_take]; rfl)) ?_; (with_reducible refine (magnetoref04_Value.calls k4 _ _ ((l0.take ((wrap64 ((ji65) + 8)) : Int).toNat).drop ((ji65) : Int).toNat) t559 _ ?side1 ?side2 A69.out).mono ?_); (case side1 => repeat (first | exact (Kd.C_below HR558.out HB.out) | (with_reducible refine Kd.C_alloc ?_ _) | (with_reducible refine Kd.C_drewN ?_ _) | (with_reducible refine Kd.C_drew ?_))); (case side2 => exact HC558.out); rintro e w' ⟨rfl, ⟨nd, rfl⟩⟩; refine ⟨_, rfl, ?_⟩; (try (rw [drewN_self wr]; generalize hq_ : World.drewN wr _ = wr; have n0_ : Aside0 (Kd.R (Kd.int .i64) 3 wr w.heap.size (fun _ => True) (.slice (some ad552) t541.length co56) t541) := ⟨by rw [← hq_]; exact (by (with_reducible repeat (first | apply Kd.R_alloc | apply Kd.R_drewN | apply Kd.R_drew)); exact HO_5.out)⟩; have n1_ : Aside0 (wr.heap[gb538]? = some (.cells #[.int .i64 0, .bool false, .bool false, .int .i64 0, .int .u8 0, .int .u8 0, .int .u8 0, .int .u8 0, .int .u8 0, .int .u8 0, .int .u8 0, .int .u8 0] 24 (0, 0))) := ⟨by rw [← hq_]; exact (by (with_reducible repeat (first | refine blk_drewN ?_ _ | refine blk_drew ?_ | refine blk_alloc ?_ _)); exact BK538.out)⟩; have n2_ : Aside0 (wr.heap[gb548]? = some (.cells #[.int .i64 x549000_15, .bool ((rd l0 13) == 1), .bool x549002_15, .int .i64 x549003_53, .int .u8 x549004_4, .int .u8 x549005_4, .int .u8 x549006_4, .int .u8 x549007_4, .int .u8 x549008_4, .int .u8 x549009_4, .int .u8 x549010_4, .int .u8 x549011_4] 24 (0, 0))) := ⟨by rw [← hq_]; exact (by (with_reducible repeat (first | refine blk_drewN ?_ _ | refine blk_drew ?_ | refine blk_alloc ?_ _)); exact BK548.out)⟩; have n3_ : Aside0 (Below w.heap.size w wr) := ⟨by rw [← hq_]; exact (by repeat (first | (with_reducible first | exact HB.out | apply below_alloc | apply pw_below_drewN | apply below_drew1 | refine below_set ?_ GE538.out | refine below_set ?_ GE548.out) | exact HB.out))⟩; clear HO_5 BK538 BK548 HB hq_; have HO_5 := n0_; have BK538 := n1_; have BK548 := n2_; have HB := n3_; clear n0_ n1_ n2_ n3_)); have hnb73 := NB548_538.out; have hnc73 := NB538_548.out; have hcz74_0 : wr.cell? ⟨gb548, 0, none⟩ = some (.int .i64 x549000_15) := (blk_cell BK548.out 0).trans rfl; have hcz74_1 : wr.cell? ⟨gb548, 1, none⟩ = some (.bool ((rd l0 13) == 1)) := (blk_cell BK548.out 1).trans rfl; have hcz74_2 : wr.cell? ⟨gb548, 2, none⟩ = some (.bool x549002_15) := (blk_cell BK548.out 2).trans rfl; have hcz74_3 : wr.cell? ⟨gb548, 3, none⟩ = some (.int .i64 x549003_53) := (blk_cell BK548.out 3).trans rfl; have hcz74_4 : wr.cell? ⟨gb548, 4, none⟩ = some (.int .u8 x549004_4) := (blk_cell BK548.out 4).trans rfl; have hcz74_5 : wr.cell? ⟨gb548, 5, none⟩ = some (.int .u8 x549005_4) := (blk_cell BK548.out 5).trans rfl; have hcz74_6 : wr.cell? ⟨gb548, 6, none⟩ = some (.int .u8 x549006_4) := (blk_cell BK548.out 6).trans rfl; have hcz74_7 : wr.cell? ⟨gb548, 7, none⟩ = some (.int .u8 x549007_4) := (blk_cell BK548.out 7).trans rfl; have hcz74_8 : wr.cell? ⟨gb548, 8, none⟩ = some (.int .u8 x549008_4) := (blk_cell BK548.out 8).trans rfl; have hcz74_9 : wr.cell? ⟨gb548, 9, none⟩ = some (.int .u8 x549009_4) := (blk_cell BK548.out 9).trans rfl; have hcz74_10 : wr.cell? ⟨gb548, 10, none⟩ = some (.int .u8 x549010_4) := (blk_cell BK548.out 10).trans rfl; have hcz74_11 : wr.cell? ⟨gb548, 11, none⟩ = some (.int .u8 x549011_4) := (blk_cell BK548.out 11).trans rfl; have hfz74_0 := blk_frozen BK548.out 0; have hfz74_1 := blk_frozen BK548.out 1; have hfz74_2 := blk_frozen BK548.out 2; have hfz74_3 := blk_frozen BK548.out 3; have hfz74_4 := blk_frozen BK548.out 4; have hfz74_5 := blk_frozen BK548.out 5; have hfz74_6 := blk_frozen BK548.out 6; have hfz74_7 := blk_frozen BK548.out 7; have hfz74_8 := blk_frozen BK548.out 8; have hfz74_9 := blk_frozen BK548.out 9; have hfz74_10 := blk_frozen BK548.out 10; have hfz74_11 := blk_frozen BK548.out 11; have hcy75 : wr.cell? ⟨gb548, 4 + (x8_4 : Int).toNat, none⟩ = some (.int .u8 (rd ([x549004_4, x549005_4, x549006_4, x549007_4, x549008_4, x549009_4, x549010_4, x549011_4] : List Int) x8_4)) := arr_int .u8 4 ([x549004_4, x549005_4, x549006_4, x549007_4, x549008_4, x549009_4, x549010_4, x549011_4] : List Int) BK548.out rfl (x8_4 : Int) (of_decide_eq_true (by first | (with_reducible assumption) | assumption)) (of_decide_eq_true (by first | (with_reducible assumption) | assumption)); have hfy75 := blk_frozen BK548.out (4 + (x8_4 : Int).toNat); have hpy75 : (0 ≤ (x8_4 : Int)) = True := eq_true (of_decide_eq_true (by first | (with_reducible assumption) | assumption)); have hqy75 : ((x8_4 : Int) < 8) = True := eq_true (of_decide_eq_true (by first | (with_reducible assumption) | assumption))))
                            go_roundg k4
                            case measure => have := HJ2.out; have := HJ15.out; have := HJ53.out; have := HK4.out; omega
                            case rel => exact ⟨(wrap64 (x8_4 + 1)), (pk x8_4 0 ((t559) % 256) x549004_4), (pk x8_4 1 ((t559) % 256) x549005_4), (pk x8_4 2 ((t559) % 256) x549006_4), (pk x8_4 3 ((t559) % 256) x549007_4), (pk x8_4 4 ((t559) % 256) x549008_4), (pk x8_4 5 ((t559) % 256) x549009_4), (pk x8_4 6 ((t559) % 256) x549010_4), (pk x8_4 7 ((t559) % 256) x549011_4), (by first | rfl | (simp; done) | (simp [*]; done)), H', ⟨by have := HJ2.out; have := HJ15.out; have := HJ53.out; have := HK4.out; omega⟩, ⟨by (with_reducible repeat (first | apply Kd.R_alloc | apply Kd.R_drewN | apply Kd.R_drew)); exact Kd.R_mono (Kd.R_far (p := ⟨gb548, 4 + (x8_4 : Int).toNat, none⟩) (Kd.R_types HO_5.out BK548.out (by decide)) (fun _ hk => hk.2) (.int .u8 ((t559) % 256))) (fun _ hk => trivial)⟩, ⟨by (with_reducible repeat (first | refine blk_drewN ?_ _ | refine blk_drew ?_ | refine blk_alloc ?_ _)); refine blk_far ?_ NB538_548.out _; (with_reducible repeat (first | refine blk_drewN ?_ _ | refine blk_drew ?_ | refine blk_alloc ?_ _)); exact BK538.out⟩, ⟨by (with_reducible repeat (first | refine blk_drewN ?_ _ | refine blk_drew ?_ | refine blk_alloc ?_ _)); refine blk_putv (cs := #[.int .i64 x549000_15, .bool ((rd l0 13) == 1), .bool x549002_15, .int .i64 x549003_53, .int .u8 x549004_4, .int .u8 x549005_4, .int .u8 x549006_4, .int .u8 x549007_4, .int .u8 x549008_4, .int .u8 x549009_4, .int .u8 x549010_4, .int .u8 x549011_4]) ?_ _ _ (pk_set_4 .u8 _ _ (by first | (with_reducible assumption) | exact of_eq_true (by assumption) | exact of_decide_eq_true (by assumption)) (by first | (with_reducible assumption) | exact of_eq_true (by assumption) | exact of_decide_eq_true (by assumption))); (with_reducible repeat (first | refine blk_drewN ?_ _ | refine blk_drew ?_ | refine blk_alloc ?_ _)); exact BK548.out⟩, ⟨by repeat (first | (with_reducible first | exact HB.out | apply below_alloc | apply pw_below_drewN | apply below_drew1 | refine below_set ?_ GE538.out | refine below_set ?_ GE548.out) | exact HB.out)⟩⟩
                           ·
                            rw [if_neg c71] at H
                            exact absurd H (by simp)
                          ·
                           rw [if_neg c70] at H
                           exact absurd H (by simp)
                         ·
                          rw [if_neg c68] at H
                          exact absurd H (by simp)
                        ·
                         rw [if_neg c67] at H
                         exact absurd H (by simp)
                       ·
                        rw [if_neg c66] at H
                        exact absurd H (by simp)
                      ·
                       rw [if_neg c64] at H
                       have c64b0 : decide (x8_4 < (wrap64 (Int.tdiv (rd t541 3) 8))) = false := decide_eq_false c64
                       clear c64
                       simp only [Option.some.injEq, Prod.mk.injEq] at H
                       obtain ⟨rfl, rfl, rfl, rfl, rfl, rfl, rfl, rfl, rfl, rfl, rfl, rfl, rfl⟩ := H
                       have p557 : 0 ≤ (3 : Int) := (by omega)
                       have q557 : 3 < (t541.length : Int) := of_decide_eq_true (by first | (with_reducible assumption) | assumption)
                       obtain ⟨ad557, e557, hx557_0⟩ := Kd.at_int (Kd.R_reads' HO_5.out).2.2 3 p557 q557
                       obtain rfl : ad552 = ad557 := (by injection e557)
                       (try simp only [show (3 : Int).toNat = 3 from rfl, Nat.reduceMul, Nat.reduceEqDiff, Go.Addr.add, ↓reduceIte] at hx557_0)
                       have qi557 : (3 < t541.length) = True := eq_true (by omega)
                       (try rw [show ((3 : Int)).toNat = 3 from rfl] at hx557_0)
                       replace p557 := eq_true p557
                       replace q557 := eq_true q557
                       have hnb76 := NB548_538.out
                       have hnc76 := NB538_548.out
                       have hcz77_0 : wr.cell? ⟨gb548, 0, none⟩ = some (.int .i64 x549000_15) := (blk_cell BK548.out 0).trans rfl
                       have hcz77_1 : wr.cell? ⟨gb548, 1, none⟩ = some (.bool ((rd l0 13) == 1)) := (blk_cell BK548.out 1).trans rfl
                       have hcz77_2 : wr.cell? ⟨gb548, 2, none⟩ = some (.bool x549002_15) := (blk_cell BK548.out 2).trans rfl
                       have hcz77_3 : wr.cell? ⟨gb548, 3, none⟩ = some (.int .i64 x549003_53) := (blk_cell BK548.out 3).trans rfl
                       have hcz77_4 : wr.cell? ⟨gb548, 4, none⟩ = some (.int .u8 x549004_4) := (blk_cell BK548.out 4).trans rfl
                       have hcz77_5 : wr.cell? ⟨gb548, 5, none⟩ = some (.int .u8 x549005_4) := (blk_cell BK548.out 5).trans rfl
                       have hcz77_6 : wr.cell? ⟨gb548, 6, none⟩ = some (.int .u8 x549006_4) := (blk_cell BK548.out 6).trans rfl
                       have hcz77_7 : wr.cell? ⟨gb548, 7, none⟩ = some (.int .u8 x549007_4) := (blk_cell BK548.out 7).trans rfl
                       have hcz77_8 : wr.cell? ⟨gb548, 8, none⟩ = some (.int .u8 x549008_4) := (blk_cell BK548.out 8).trans rfl
                       have hcz77_9 : wr.cell? ⟨gb548, 9, none⟩ = some (.int .u8 x549009_4) := (blk_cell BK548.out 9).trans rfl
                       have hcz77_10 : wr.cell? ⟨gb548, 10, none⟩ = some (.int .u8 x549010_4) := (blk_cell BK548.out 10).trans rfl
                       have hcz77_11 : wr.cell? ⟨gb548, 11, none⟩ = some (.int .u8 x549011_4) := (blk_cell BK548.out 11).trans rfl
                       have hfz77_0 := blk_frozen BK548.out 0
                       have hfz77_1 := blk_frozen BK548.out 1
                       have hfz77_2 := blk_frozen BK548.out 2
                       have hfz77_3 := blk_frozen BK548.out 3
                       have hfz77_4 := blk_frozen BK548.out 4
                       have hfz77_5 := blk_frozen BK548.out 5
                       have hfz77_6 := blk_frozen BK548.out 6
                       have hfz77_7 := blk_frozen BK548.out 7
                       have hfz77_8 := blk_frozen BK548.out 8
                       have hfz77_9 := blk_frozen BK548.out 9
                       have hfz77_10 := blk_frozen BK548.out 10
                       have hfz77_11 := blk_frozen BK548.out 11
                       have hcz78_0 : wr.cell? ⟨gb538, 0, none⟩ = some (.int .i64 0) := (blk_cell BK538.out 0).trans rfl
                       have hcz78_1 : wr.cell? ⟨gb538, 1, none⟩ = some (.bool false) := (blk_cell BK538.out 1).trans rfl
                       have hcz78_2 : wr.cell? ⟨gb538, 2, none⟩ = some (.bool false) := (blk_cell BK538.out 2).trans rfl
                       have hcz78_3 : wr.cell? ⟨gb538, 3, none⟩ = some (.int .i64 0) := (blk_cell BK538.out 3).trans rfl
                       have hcz78_4 : wr.cell? ⟨gb538, 4, none⟩ = some (.int .u8 0) := (blk_cell BK538.out 4).trans rfl
                       have hcz78_5 : wr.cell? ⟨gb538, 5, none⟩ = some (.int .u8 0) := (blk_cell BK538.out 5).trans rfl
                       have hcz78_6 : wr.cell? ⟨gb538, 6, none⟩ = some (.int .u8 0) := (blk_cell BK538.out 6).trans rfl
                       have hcz78_7 : wr.cell? ⟨gb538, 7, none⟩ = some (.int .u8 0) := (blk_cell BK538.out 7).trans rfl
                       have hcz78_8 : wr.cell? ⟨gb538, 8, none⟩ = some (.int .u8 0) := (blk_cell BK538.out 8).trans rfl
                       have hcz78_9 : wr.cell? ⟨gb538, 9, none⟩ = some (.int .u8 0) := (blk_cell BK538.out 9).trans rfl
                       have hcz78_10 : wr.cell? ⟨gb538, 10, none⟩ = some (.int .u8 0) := (blk_cell BK538.out 10).trans rfl
                       have hcz78_11 : wr.cell? ⟨gb538, 11, none⟩ = some (.int .u8 0) := (blk_cell BK538.out 11).trans rfl
                       have hfz78_0 := blk_frozen BK538.out 0
                       have hfz78_1 := blk_frozen BK538.out 1
                       have hfz78_2 := blk_frozen BK538.out 2
                       have hfz78_3 := blk_frozen BK538.out 3
                       have hfz78_4 := blk_frozen BK538.out 4
                       have hfz78_5 := blk_frozen BK538.out 5
                       have hfz78_6 := blk_frozen BK538.out 6
                       have hfz78_7 := blk_frozen BK538.out 7
                       have hfz78_8 := blk_frozen BK538.out 8
                       have hfz78_9 := blk_frozen BK538.out 9
                       have hfz78_10 := blk_frozen BK538.out 10
                       have hfz78_11 := blk_frozen BK538.out 11
                       go_wp2
                       refine bodyPost_ret (results_ct rfl _ _ gb538 24 #[.int .i64 x549000_15, .bool ((rd l0 13) == 1), .bool x549002_15, .int .i64 x549003_53, .int .u8 x549004_4, .int .u8 x549005_4, .int .u8 x549006_4, .int .u8 x549007_4, .int .u8 x549008_4, .int .u8 x549009_4, .int .u8 x549010_4, .int .u8 x549011_4] (0, 0) _ rfl (by (with_reducible repeat (first | refine blk_drewN ?_ _ | refine blk_drew ?_ | refine blk_alloc ?_ _)); refine blk_put (cs := #[.int .i64 x549000_15, .bool ((rd l0 13) == 1), .bool x549002_15, .int .i64 x549003_53, .int .u8 x549004_4, .int .u8 x549005_4, .int .u8 x549006_4, .int .u8 x549007_4, .int .u8 x549008_4, .int .u8 x549009_4, .int .u8 x549010_4, .int .u8 0]) ?_ 11 _ rfl; (with_reducible repeat (first | refine blk_drewN ?_ _ | refine blk_drew ?_ | refine blk_alloc ?_ _)); refine blk_put (cs := #[.int .i64 x549000_15, .bool ((rd l0 13) == 1), .bool x549002_15, .int .i64 x549003_53, .int .u8 x549004_4, .int .u8 x549005_4, .int .u8 x549006_4, .int .u8 x549007_4, .int .u8 x549008_4, .int .u8 x549009_4, .int .u8 0, .int .u8 0]) ?_ 10 _ rfl; (with_reducible repeat (first | refine blk_drewN ?_ _ | refine blk_drew ?_ | refine blk_alloc ?_ _)); refine blk_put (cs := #[.int .i64 x549000_15, .bool ((rd l0 13) == 1), .bool x549002_15, .int .i64 x549003_53, .int .u8 x549004_4, .int .u8 x549005_4, .int .u8 x549006_4, .int .u8 x549007_4, .int .u8 x549008_4, .int .u8 0, .int .u8 0, .int .u8 0]) ?_ 9 _ rfl; (with_reducible repeat (first | refine blk_drewN ?_ _ | refine blk_drew ?_ | refine blk_alloc ?_ _)); refine blk_put (cs := #[.int .i64 x549000_15, .bool ((rd l0 13) == 1), .bool x549002_15, .int .i64 x549003_53, .int .u8 x549004_4, .int .u8 x549005_4, .int .u8 x549006_4, .int .u8 x549007_4, .int .u8 0, .int .u8 0, .int .u8 0, .int .u8 0]) ?_ 8 _ rfl; (with_reducible repeat (first | refine blk_drewN ?_ _ | refine blk_drew ?_ | refine blk_alloc ?_ _)); refine blk_put (cs := #[.int .i64 x549000_15, .bool ((rd l0 13) == 1), .bool x549002_15, .int .i64 x549003_53, .int .u8 x549004_4, .int .u8 x549005_4, .int .u8 x549006_4, .int .u8 0, .int .u8 0, .int .u8 0, .int .u8 0, .int .u8 0]) ?_ 7 _ rfl; (with_reducible repeat (first | refine blk_drewN ?_ _ | refine blk_drew ?_ | refine blk_alloc ?_ _)); refine blk_put (cs := #[.int .i64 x549000_15, .bool ((rd l0 13) == 1), .bool x549002_15, .int .i64 x549003_53, .int .u8 x549004_4, .int .u8 x549005_4, .int .u8 0, .int .u8 0, .int .u8 0, .int .u8 0, .int .u8 0, .int .u8 0]) ?_ 6 _ rfl; (with_reducible repeat (first | refine blk_drewN ?_ _ | refine blk_drew ?_ | refine blk_alloc ?_ _)); refine blk_put (cs := #[.int .i64 x549000_15, .bool ((rd l0 13) == 1), .bool x549002_15, .int .i64 x549003_53, .int .u8 x549004_4, .int .u8 0, .int .u8 0, .int .u8 0, .int .u8 0, .int .u8 0, .int .u8 0, .int .u8 0]) ?_ 5 _ rfl; (with_reducible repeat (first | refine blk_drewN ?_ _ | refine blk_drew ?_ | refine blk_alloc ?_ _)); refine blk_put (cs := #[.int .i64 x549000_15, .bool ((rd l0 13) == 1), .bool x549002_15, .int .i64 x549003_53, .int .u8 0, .int .u8 0, .int .u8 0, .int .u8 0, .int .u8 0, .int .u8 0, .int .u8 0, .int .u8 0]) ?_ 4 _ rfl; (with_reducible repeat (first | refine blk_drewN ?_ _ | refine blk_drew ?_ | refine blk_alloc ?_ _)); refine blk_put (cs := #[.int .i64 x549000_15, .bool ((rd l0 13) == 1), .bool x549002_15, .int .i64 0, .int .u8 0, .int .u8 0, .int .u8 0, .int .u8 0, .int .u8 0, .int .u8 0, .int .u8 0, .int .u8 0]) ?_ 3 _ rfl; (with_reducible repeat (first | refine blk_drewN ?_ _ | refine blk_drew ?_ | refine blk_alloc ?_ _)); refine blk_put (cs := #[.int .i64 x549000_15, .bool ((rd l0 13) == 1), .bool false, .int .i64 0, .int .u8 0, .int .u8 0, .int .u8 0, .int .u8 0, .int .u8 0, .int .u8 0, .int .u8 0, .int .u8 0]) ?_ 2 _ rfl; (with_reducible repeat (first | refine blk_drewN ?_ _ | refine blk_drew ?_ | refine blk_alloc ?_ _)); refine blk_put (cs := #[.int .i64 x549000_15, .bool false, .bool false, .int .i64 0, .int .u8 0, .int .u8 0, .int .u8 0, .int .u8 0, .int .u8 0, .int .u8 0, .int .u8 0, .int .u8 0]) ?_ 1 _ rfl; (with_reducible repeat (first | refine blk_drewN ?_ _ | refine blk_drew ?_ | refine blk_alloc ?_ _)); refine blk_put (cs := #[.int .i64 0, .bool false, .bool false, .int .i64 0, .int .u8 0, .int .u8 0, .int .u8 0, .int .u8 0, .int .u8 0, .int .u8 0, .int .u8 0, .int .u8 0]) ?_ 0 _ rfl; (with_reducible repeat (first | refine blk_drewN ?_ _ | refine blk_drew ?_ | refine blk_alloc ?_ _)); exact BK538.out) Try.underlying24 rfl (by kernel_rfl)) rfl ?_
                       exact ⟨by first | rfl | (simp [errW_none, errW_some] <;> rfl) | (simp only [← hji49]; first | rfl | (simp [errW_none, errW_some] <;> rfl)) | (simp [*, errW_none, errW_some] <;> rfl), by repeat (first | (with_reducible first | exact HB.out | apply below_alloc | apply pw_below_drewN | apply below_drew1 | refine below_set ?_ GE538.out | refine below_set ?_ GE548.out) | exact HB.out)⟩
                     ·
                      rw [if_neg c63] at H
                      exact absurd H (by simp)
                ·
                 rw [if_neg c52] at H
                 exact absurd H (by simp)
               ·
                rw [if_neg c51] at H
                exact absurd H (by simp)
              ·
               rw [if_neg c50] at H
               exact absurd H (by simp)
             ·
              rw [if_neg c48] at H
              exact absurd H (by simp)
            ·
             rw [if_neg c47] at H
             exact absurd H (by simp)
           ·
            rw [if_neg c46] at H
            exact absurd H (by simp)
        ·
         rw [if_neg c15] at H
         exact absurd H (by simp)
       ·
        rw [if_neg c14] at H
        exact absurd H (by simp)
      ·
       rw [if_neg c12] at H
       exact absurd H (by simp)
     ·
      rw [if_neg c10] at H
      have c10b0 : ((rd l0 0) == 0) = false := beq_eq_false_iff_ne.mpr c10
      have c10b1 : ((rd l0 0) != 0) = true := bne_iff_ne.mpr c10
      simp only [Option.some.injEq, Prod.mk.injEq] at H
      obtain ⟨rfl, rfl, rfl, rfl, rfl, rfl, rfl, rfl, rfl, rfl, rfl, rfl, rfl⟩ := H
      have p540 : 0 ≤ (0 : Int) := (by omega)
      have q540 : 0 < (l0.length : Int) := of_decide_eq_true (by first | (with_reducible assumption) | assumption)
      obtain ⟨ad540, e540, hx540_0⟩ := Kd.at_int HR0.out 0 p540 q540
      cases e540
      have qi540 : (0 < l0.length) = True := eq_true (by omega)
      (try rw [show ((0 : Int)).toNat = 0 from rfl] at hx540_0)
      (try rw [Addr.add_zero'] at hx540_0)
      replace hx540_0 := (HB.out.cell (World.block_lt_of_cell? w _ hx540_0)).trans hx540_0
      replace p540 := eq_true p540
      replace q540 := eq_true q540
      have hcz79_0 : wc.cell? ⟨gb538, 0, none⟩ = some (.int .i64 0) := (blk_cell BK538.out 0).trans rfl
      have hcz79_1 : wc.cell? ⟨gb538, 1, none⟩ = some (.bool false) := (blk_cell BK538.out 1).trans rfl
      have hcz79_2 : wc.cell? ⟨gb538, 2, none⟩ = some (.bool false) := (blk_cell BK538.out 2).trans rfl
      have hcz79_3 : wc.cell? ⟨gb538, 3, none⟩ = some (.int .i64 0) := (blk_cell BK538.out 3).trans rfl
      have hcz79_4 : wc.cell? ⟨gb538, 4, none⟩ = some (.int .u8 0) := (blk_cell BK538.out 4).trans rfl
      have hcz79_5 : wc.cell? ⟨gb538, 5, none⟩ = some (.int .u8 0) := (blk_cell BK538.out 5).trans rfl
      have hcz79_6 : wc.cell? ⟨gb538, 6, none⟩ = some (.int .u8 0) := (blk_cell BK538.out 6).trans rfl
      have hcz79_7 : wc.cell? ⟨gb538, 7, none⟩ = some (.int .u8 0) := (blk_cell BK538.out 7).trans rfl
      have hcz79_8 : wc.cell? ⟨gb538, 8, none⟩ = some (.int .u8 0) := (blk_cell BK538.out 8).trans rfl
      have hcz79_9 : wc.cell? ⟨gb538, 9, none⟩ = some (.int .u8 0) := (blk_cell BK538.out 9).trans rfl
      have hcz79_10 : wc.cell? ⟨gb538, 10, none⟩ = some (.int .u8 0) := (blk_cell BK538.out 10).trans rfl
      have hcz79_11 : wc.cell? ⟨gb538, 11, none⟩ = some (.int .u8 0) := (blk_cell BK538.out 11).trans rfl
      have hfz79_0 := blk_frozen BK538.out 0
      have hfz79_1 := blk_frozen BK538.out 1
      have hfz79_2 := blk_frozen BK538.out 2
      have hfz79_3 := blk_frozen BK538.out 3
      have hfz79_4 := blk_frozen BK538.out 4
      have hfz79_5 := blk_frozen BK538.out 5
      have hfz79_6 := blk_frozen BK538.out 6
      have hfz79_7 := blk_frozen BK538.out 7
      have hfz79_8 := blk_frozen BK538.out 8
      have hfz79_9 := blk_frozen BK538.out 9
      have hfz79_10 := blk_frozen BK538.out 10
      have hfz79_11 := blk_frozen BK538.out 11
      go_wp2
      refine bodyPost_ret (results_ct rfl _ _ gb538 24 #[.int .i64 0, .bool false, .bool false, .int .i64 0, .int .u8 0, .int .u8 0, .int .u8 0, .int .u8 0, .int .u8 0, .int .u8 0, .int .u8 0, .int .u8 0] (0, 0) _ rfl (by (with_reducible repeat (first | refine blk_drewN ?_ _ | refine blk_drew ?_ | refine blk_alloc ?_ _)); refine blk_put (cs := #[.int .i64 0, .bool false, .bool false, .int .i64 0, .int .u8 0, .int .u8 0, .int .u8 0, .int .u8 0, .int .u8 0, .int .u8 0, .int .u8 0, .int .u8 0]) ?_ 11 _ rfl; (with_reducible repeat (first | refine blk_drewN ?_ _ | refine blk_drew ?_ | refine blk_alloc ?_ _)); refine blk_put (cs := #[.int .i64 0, .bool false, .bool false, .int .i64 0, .int .u8 0, .int .u8 0, .int .u8 0, .int .u8 0, .int .u8 0, .int .u8 0, .int .u8 0, .int .u8 0]) ?_ 10 _ rfl; (with_reducible repeat (first | refine blk_drewN ?_ _ | refine blk_drew ?_ | refine blk_alloc ?_ _)); refine blk_put (cs := #[.int .i64 0, .bool false, .bool false, .int .i64 0, .int .u8 0, .int .u8 0, .int .u8 0, .int .u8 0, .int .u8 0, .int .u8 0, .int .u8 0, .int .u8 0]) ?_ 9 _ rfl; (with_reducible repeat (first | refine blk_drewN ?_ _ | refine blk_drew ?_ | refine blk_alloc ?_ _)); refine blk_put (cs := #[.int .i64 0, .bool false, .bool false, .int .i64 0, .int .u8 0, .int .u8 0, .int .u8 0, .int .u8 0, .int .u8 0, .int .u8 0, .int .u8 0, .int .u8 0]) ?_ 8 _ rfl; (with_reducible repeat (first | refine blk_drewN ?_ _ | refine blk_drew ?_ | refine blk_alloc ?_ _)); refine blk_put (cs := #[.int .i64 0, .bool false, .bool false, .int .i64 0, .int .u8 0, .int .u8 0, .int .u8 0, .int .u8 0, .int .u8 0, .int .u8 0, .int .u8 0, .int .u8 0]) ?_ 7 _ rfl; (with_reducible repeat (first | refine blk_drewN ?_ _ | refine blk_drew ?_ | refine blk_alloc ?_ _)); refine blk_put (cs := #[.int .i64 0, .bool false, .bool false, .int .i64 0, .int .u8 0, .int .u8 0, .int .u8 0, .int .u8 0, .int .u8 0, .int .u8 0, .int .u8 0, .int .u8 0]) ?_ 6 _ rfl; (with_reducible repeat (first | refine blk_drewN ?_ _ | refine blk_drew ?_ | refine blk_alloc ?_ _)); refine blk_put (cs := #[.int .i64 0, .bool false, .bool false, .int .i64 0, .int .u8 0, .int .u8 0, .int .u8 0, .int .u8 0, .int .u8 0, .int .u8 0, .int .u8 0, .int .u8 0]) ?_ 5 _ rfl; (with_reducible repeat (first | refine blk_drewN ?_ _ | refine blk_drew ?_ | refine blk_alloc ?_ _)); refine blk_put (cs := #[.int .i64 0, .bool false, .bool false, .int .i64 0, .int .u8 0, .int .u8 0, .int .u8 0, .int .u8 0, .int .u8 0, .int .u8 0, .int .u8 0, .int .u8 0]) ?_ 4 _ rfl; (with_reducible repeat (first | refine blk_drewN ?_ _ | refine blk_drew ?_ | refine blk_alloc ?_ _)); refine blk_put (cs := #[.int .i64 0, .bool false, .bool false, .int .i64 0, .int .u8 0, .int .u8 0, .int .u8 0, .int .u8 0, .int .u8 0, .int .u8 0, .int .u8 0, .int .u8 0]) ?_ 3 _ rfl; (with_reducible repeat (first | refine blk_drewN ?_ _ | refine blk_drew ?_ | refine blk_alloc ?_ _)); refine blk_put (cs := #[.int .i64 0, .bool false, .bool false, .int .i64 0, .int .u8 0, .int .u8 0, .int .u8 0, .int .u8 0, .int .u8 0, .int .u8 0, .int .u8 0, .int .u8 0]) ?_ 2 _ rfl; (with_reducible repeat (first | refine blk_drewN ?_ _ | refine blk_drew ?_ | refine blk_alloc ?_ _)); refine blk_put (cs := #[.int .i64 0, .bool false, .bool false, .int .i64 0, .int .u8 0, .int .u8 0, .int .u8 0, .int .u8 0, .int .u8 0, .int .u8 0, .int .u8 0, .int .u8 0]) ?_ 1 _ rfl; (with_reducible repeat (first | refine blk_drewN ?_ _ | refine blk_drew ?_ | refine blk_alloc ?_ _)); refine blk_put (cs := #[.int .i64 0, .bool false, .bool false, .int .i64 0, .int .u8 0, .int .u8 0, .int .u8 0, .int .u8 0, .int .u8 0, .int .u8 0, .int .u8 0, .int .u8 0]) ?_ 0 _ rfl; (with_reducible repeat (first | refine blk_drewN ?_ _ | refine blk_drew ?_ | refine blk_alloc ?_ _)); exact BK538.out) Try.underlying24 rfl (by kernel_rfl)) rfl ?_
      exact ⟨by first | rfl | (simp [errW_none, errW_some] <;> rfl) | (simp [*, errW_none, errW_some] <;> rfl), by repeat (first | (with_reducible first | exact HB.out | apply below_alloc | apply pw_below_drewN | apply below_drew1 | refine below_set ?_ GE538.out) | exact HB.out)⟩
    ·
     rw [if_neg c9] at H
     exact absurd H (by simp)

end Go.Proofs.Ytakemodmdhglnaa.PA
