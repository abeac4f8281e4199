/- Functions of the program, in plain Lean, and their walks (printed; half the indent). Conditions: none. -/
-- PRINTED by print.py (a twelfth state) out of the translation. Not trusted: Lean checks it.
import Derived.Test.YtakemodmdhglnaaPAx0
import Derived.Test.YtakemodmdhglnaaPAx1
import Derived.Test.YtakemodmdhglnaaPAx7
import Derived.Test.YtakemodmdhglnaaPAx13
import Derived.Test.YtakemodmdhglnaaPAx14
import Derived.Test.YtakemodmdhglnaaPAx17
import Derived.Test.YtakemodmdhglnaaPAx18
import Derived.Test.YtakemodmdhglnaaPAx19
namespace Go.Proofs.Ytakemodmdhglnaa.PA
open Go.RowKit Go.Proofs.YtakemodmdhglnaaW.PrintWords Go.Proofs.YtakemodmdhglnaaW.PrintLast Go.Proofs.YtakemodmdhglnaaW.PrintMore
attribute [local go_sem] zqbb zqaz zqbd zqbe zqax zqay zqba zqbc   -- for this text's walks alone
set_option linter.unusedVariables false
set_option linter.unusedSimpArgs false

attribute [local go_sem high] eqA24
/-! ### magnetoref03_digits: function 73 -/
def magnetoref03_digits.f : Nat → Int → Int → Option (List Int)
 | 0, _, _ => none
 | k + 1, a0, a1 => if a1 = 0 then (some ([] : List Int)) else ((magnetoref03_digits.f k (wrap64 (Int.tdiv a0 2)) (wrap64 (a1 - 1))).bind fun t237 => (if t237.length < 17592186044416 then (some (t237 ++ [Int.tmod a0 2])) else (none)))
theorem magnetoref03_digits.mono_l : ∀ k, (∀ y0 y1, LeO (magnetoref03_digits.f k y0 y1) (magnetoref03_digits.f (k + 1) y0 y1))
 | 0 => fun _ _ r h => by simp [magnetoref03_digits.f] at h
 | k + 1 => by
  have ih0 := magnetoref03_digits.mono_l k
  ·
   intro y0 y1
   unfold magnetoref03_digits.f
   repeat' first
   | (with_reducible exact ih0 _ _)
   | (with_reducible exact LeO.refl _)
   | (with_reducible exact LeO.none _)
   | (with_reducible refine LeO.ite ?_ ?_)
   | (with_reducible refine LeO.bind ?_ (fun _ => ?_))
   | exact ih0 _ _
   | exact LeO.none _
   | refine LeO.ite ?_ ?_
   | refine LeO.bind ?_ (fun _ => ?_)
theorem magnetoref03_digits.mono : ∀ a0 a1 k, LeO (magnetoref03_digits.f k a0 a1) (magnetoref03_digits.f (k + 1) a0 a1) := by
 intro a0 a1 k
 have ih0 := magnetoref03_digits.mono_l k
 exact ih0 a0 a1
set_option maxHeartbeats 8000000 in
set_option maxRecDepth 100000 in
theorem magnetoref03_digits.calls (k : Nat) : ∀ (a0 : Int) (a1 : Int) (r : List Int) (w : World) (h : magnetoref03_digits.f k a0 a1 = some r),
  Calls Try.prog 73 #[.int .i64 a0, .int .i64 a1] w fun e w' => ∃ v0_ : Value, e = .returned (v0_) ∧ Kd.R (Kd.int .i64) 3 w' w.heap.size (fun _ => True) v0_ r ∧ Below w.heap.size w w' := by
 induction k using Nat.strongRecOn with
 | _ k ih =>
 intro a0 a1 r w h
 cases k with
 | zero => exact absurd h (by simp [magnetoref03_digits.f])
 | succ k =>
 simp only [magnetoref03_digits.f] at h
 have HB := Aside0.mk (Below.refl w.heap.size w)
 have H : (if a1 = 0 then (some ([] : List Int)) else ((magnetoref03_digits.f k (wrap64 (Int.tdiv a0 2)) (wrap64 (a1 - 1))).bind fun t237 => (if t237.length < 17592186044416 then (some (t237 ++ [Int.tmod a0 2])) else (none)))) = some r := h
 clear h
 by_cases c3 : a1 = 0
 ·
  rw [if_pos c3] at H
  have c3b0 : (a1 == 0) = true := beq_iff_eq.mpr c3
  have c3b1 : (a1 != 0) = false := bne_eq_false_iff_eq.mpr c3
  clear c3
  obtain rfl := Option.some.inj H
  go_enter Try.func73, Try.ntmps73
  go_wp2
  go_ret
  exact ⟨_, by first | rfl | (simp [errW_none, errW_some] <;> rfl) | (simp [*, errW_none, errW_some] <;> rfl), by first | exact Kd.R_nil _ _ _ _ _ | exact Kd.N_nil _ _ _ _ _ | exact Kd.V_nil _ _ _ _ _ | exact Kd.Q_nil _ _ _ _ _ | exact Kd.S_nil _ _ _ _ _, by repeat (with_reducible first | exact HB.out | apply zqad | apply zqac | apply zqae)⟩
 ·
  rw [if_neg c3] at H
  have c3b0 : (a1 == 0) = false := beq_eq_false_iff_ne.mpr c3
  have c3b1 : (a1 != 0) = true := bne_iff_ne.mpr c3
  replace H := Option.bind_eq_some_iff.mp H
  obtain ⟨t237, A40, H⟩ := H
  replace H : (if t237.length < 17592186044416 then (some (t237 ++ [Int.tmod a0 2])) else (none)) = some r := H
  have A4 := Aside0.mk A40
  clear A40
  by_cases c5 : t237.length < 17592186044416
  ·
   rw [if_pos c5] at H
   have LMc5 := Aside0.mk c5
   clear c5
   obtain ⟨y240, hy240⟩ : ∃ y_ : List Int, y_ = (t237 ++ [Int.tmod a0 2]) := ⟨_, rfl⟩
   replace H : (some y240) = some r := by first | (rw [hy240]; with_reducible exact H) | (have H2_ := (Option.bind_some _ _).symm.trans H; rw [hy240]; with_reducible exact H2_) | (have H2_ := (Option.bind_some _ _).symm.trans H; with_reducible exact H2_) | with_reducible exact H | (rw [hy240]; exact H) | exact H
   have Ny240 := Aside0.mk hy240
   clear hy240
   obtain rfl := Option.some.inj H
   go_enter Try.func73, Try.ntmps73
   go_wp2_with (first | ((with_reducible refine zqal (f := 73) rfl ?_); refine goesL_ (some 11) rfl rfl Try.func73 (by kernel_rfl) rfl #[.int .i64 (wrap64 (Int.tdiv a0 2)), .int .i64 (wrap64 (a1 - 1))] rfl (by (try simp only [List.map_toArray, List.map_cons, List.map_nil]); first | done | rfl | (simp only [List.length_drop, List.length_take]; rfl)) ?_; (with_reducible refine (ih k (by omega) (wrap64 (Int.tdiv a0 2)) (wrap64 (a1 - 1)) t237 _ A4.out).mono ?_); rintro e w6 ⟨v238, rfl, ho0, hb⟩; refine ⟨_, rfl, ?_⟩; have n0_ := Aside0.mk (Kd.R_lower ho0 (zqaj (by repeat (with_reducible first | exact HB.out | apply zqad | apply zqac | apply zqae)))); have n1_ := Aside0.mk (zqak (by repeat (with_reducible first | exact HB.out | apply zqad | apply zqac | apply zqae)) hb); clear HB; have HO239 := n0_; have HB := n1_; clear n0_ n1_; (try clear hb); (try clear hb2); (try clear hk); (try clear hi); (try clear ho0)) | ((with_reducible refine zqao (b := .append) (xs := #[.tmp 11, .tmp 14]) rfl ?_); at_builtin; refine Kd.R_append (Kd.int .i64) (w0 := w) w.heap.size rfl (.tmp 11) (.tmp 14) 25 3 (.int .i64 0) 8 rfl Try.underlying25 info3 rfl (by decide) (by omega) v238 t237 (Int.tmod a0 2) [.int .i64 (Int.tmod a0 2)] (fun _ => True) (fun _ => False) rfl rfl ?aP (fun _ hk => hk.elim) ?aF ?aO ?aB ?aS ?aL ?_; (case aP => exact rfl); (case aB => exact (by repeat (with_reducible first | exact HB.out | apply zqad | apply zqac | apply zqae))); (case aF => exact (fun _ _ => trivial)); (case aO => exact (by (with_reducible repeat (first | apply Kd.R_alloc | apply Kd.R_drewN | apply Kd.R_drew)); exact HO239.out)); (case aS => exact (zqaj (by repeat (with_reducible first | exact HB.out | apply zqad | apply zqac | apply zqae)))); (case aL => have := LMc5.out; omega); intro v241 w7 ho hb hg hat; rw [← Ny240.out] at ho; have n0_ := Aside0.mk (hb); have n1_ := Aside0.mk (ho); clear HB; clear HO239; have HB := n0_; have HO242 := n1_; clear n0_ n1_; clear ho hb hg hat))
   go_ret
   exact ⟨_, by first | rfl | (simp [errW_none, errW_some] <;> rfl) | (simp [*, errW_none, errW_some] <;> rfl), by (with_reducible repeat (first | apply Kd.R_alloc | apply Kd.R_drewN | apply Kd.R_drew)); exact HO242.out, by repeat (with_reducible first | exact HB.out | apply zqad | apply zqac | apply zqae)⟩
  ·
   rw [if_neg c5] at H
   exact absurd H (by simp)

/-! ### magnetoref03_flag: function 74 -/
def magnetoref03_flag.f (a0 : Bool) : Option (Int) := if a0 = true then (some 1) else (some 0)
set_option maxHeartbeats 8000000 in
set_option maxRecDepth 100000 in
theorem magnetoref03_flag.calls (a0 : Bool) (r : Int) (w : World) (h : magnetoref03_flag.f a0 = some r) :
  Calls Try.prog 74 #[.bool a0] w fun e w' => e = .returned (.int .i64 r) ∧ Drawn0 w w' := by
 have H : (if a0 = true then (some 1) else (some 0)) = some r := h
 clear h
 by_cases c2 : a0 = true
 ·
  subst c2
  have H1 : (some 1) = some r := by rw [if_pos rfl] at H; exact H
  clear H
  have H := H1
  clear H1
  obtain rfl := Option.some.inj H
  go_enter Try.func74, Try.ntmps74
  go_wp2
  go_ret
  exact ⟨by first | rfl | (simp; done) | (simp [*]; done), by repeat (first | exact Drawn0.refl _ | apply Drawn0.step)⟩
 ·
  replace c2 := Bool.eq_false_iff.mpr c2
  subst c2
  have H1 : (some 0) = some r := by rw [if_neg (show ¬ (false = true) by decide)] at H; exact H
  clear H
  have H := H1
  clear H1
  obtain rfl := Option.some.inj H
  go_enter Try.func74, Try.ntmps74
  go_wp2
  go_ret
  exact ⟨by first | rfl | (simp; done) | (simp [*]; done), by repeat (first | exact Drawn0.refl _ | apply Drawn0.step)⟩

/-! ### magnetoref03_Arb: function 51 -/
def magnetoref03_Arb.f (k : Nat) (a0_0 : Int) (a0_1 : Bool) (a0_2 : Bool) (a0_3 : Int) (a0_4 : Int) (a0_5 : Int) (a0_6 : Int) (a0_7 : Int) (a0_8 : Int) (a0_9 : Int) (a0_10 : Int) (a0_11 : Int) : Option (List Int) := if a0_1 = true then ((magnetoref03_digits.f k (wrap64 (Int.tdiv a0_0 262144)) 11).bind fun t244 => ((some (([1, 1] : List Int) : List Int)).bind fun y247 => (if t244.length + y247.length < 17592186044416 then ((some (t244 ++ y247 : List Int)).bind fun y250 => ((magnetoref03_digits.f k (Int.tmod a0_0 262144) 18).bind fun t253 => (if y250.length + t253.length < 17592186044416 then ((some (y250 ++ t253 : List Int)).bind fun y256 => ((magnetoref03_flag.f a0_2).bind fun t259 => (if y256.length < 17592186044416 then (some (y256 ++ [t259])) else (none)))) else (none)))) else (none)))) else ((magnetoref03_digits.f k a0_0 11).bind fun t263 => ((magnetoref03_flag.f a0_2).bind fun t266 => ((some (([t266, 0] : List Int) : List Int)).bind fun y267 => (if t263.length + y267.length < 17592186044416 then (some (t263 ++ y267)) else (none)))))
theorem magnetoref03_Arb.mono : ∀ a0 a1 a2 a3 a4 a5 a6 a7 a8 a9 a10 a11 k, LeO (magnetoref03_Arb.f k a0 a1 a2 a3 a4 a5 a6 a7 a8 a9 a10 a11) (magnetoref03_Arb.f (k + 1) a0 a1 a2 a3 a4 a5 a6 a7 a8 a9 a10 a11) := by
 intro a0 a1 a2 a3 a4 a5 a6 a7 a8 a9 a10 a11 k
 unfold magnetoref03_Arb.f
 repeat' first
   | (with_reducible exact magnetoref03_digits.mono _ _ _)
   | (with_reducible exact LeO.refl _)
   | (with_reducible exact LeO.none _)
   | (with_reducible refine LeO.ite ?_ ?_)
   | (with_reducible refine LeO.bind ?_ (fun _ => ?_))
   | exact magnetoref03_digits.mono _ _ _
   | exact LeO.none _
   | refine LeO.ite ?_ ?_
   | refine LeO.bind ?_ (fun _ => ?_)
def magnetoref03_Arb.T2 : Bool × List (List Nat × List Nat) := (true, [([], []), ([0], [0]), ([1], [1]), ([], []), ([3], [3]), ([4, 2], [4]), ([5], [5]), ([2, 6, 5], [2, 6]), ([7, 7, 0, 1, 2, 3, 4, 5, 6, 7], [7])])
def magnetoref03_Arb.B2 : List Nat := [0, 1, 3, 0, 8, 31, 63, 127, 255]
theorem magnetoref03_Arb.tab2 : rtab .any (opsOf Try.f51 2) = magnetoref03_Arb.T2 := by kernel_rfl
theorem magnetoref03_Arb.bits2 : zqbk magnetoref03_Arb.T2.2 magnetoref03_Arb.B2 = true := by kernel_rfl
set_option maxHeartbeats 8000000 in
set_option maxRecDepth 100000 in
theorem magnetoref03_Arb.calls (k : Nat) (a0_0 : Int) (a0_1 : Bool) (a0_2 : Bool) (a0_3 : Int) (a0_4 : Int) (a0_5 : Int) (a0_6 : Int) (a0_7 : Int) (a0_8 : Int) (a0_9 : Int) (a0_10 : Int) (a0_11 : Int) (r : List Int) (w : World) (h : magnetoref03_Arb.f k a0_0 a0_1 a0_2 a0_3 a0_4 a0_5 a0_6 a0_7 a0_8 a0_9 a0_10 a0_11 = some r) :
  Calls Try.prog 51 #[.agg #[.int .i64 a0_0, .bool a0_1, .bool a0_2, .int .i64 a0_3, .int .u8 a0_4, .int .u8 a0_5, .int .u8 a0_6, .int .u8 a0_7, .int .u8 a0_8, .int .u8 a0_9, .int .u8 a0_10, .int .u8 a0_11]] w fun e w' => ∃ v0_ : Value, e = .returned (v0_) ∧ Kd.R (Kd.int .i64) 3 w' w.heap.size (fun _ => True) v0_ r ∧ Below w.heap.size w w' := by
 have hu24 := Try.underlying24
 have HB := Aside0.mk (Below.refl w.heap.size w)
 have H : (if a0_1 = true then ((magnetoref03_digits.f k (wrap64 (Int.tdiv a0_0 262144)) 11).bind fun t244 => ((some (([1, 1] : List Int) : List Int)).bind fun y247 => (if t244.length + y247.length < 17592186044416 then ((some (t244 ++ y247 : List Int)).bind fun y250 => ((magnetoref03_digits.f k (Int.tmod a0_0 262144) 18).bind fun t253 => (if y250.length + t253.length < 17592186044416 then ((some (y250 ++ t253 : List Int)).bind fun y256 => ((magnetoref03_flag.f a0_2).bind fun t259 => (if y256.length < 17592186044416 then (some (y256 ++ [t259])) else (none)))) else (none)))) else (none)))) else ((magnetoref03_digits.f k a0_0 11).bind fun t263 => ((magnetoref03_flag.f a0_2).bind fun t266 => ((some (([t266, 0] : List Int) : List Int)).bind fun y267 => (if t263.length + y267.length < 17592186044416 then (some (t263 ++ y267)) else (none)))))) = some r := h
 clear h
 by_cases c2 : a0_1 = true
 ·
  subst c2
  have H1 : ((magnetoref03_digits.f k (wrap64 (Int.tdiv a0_0 262144)) 11).bind fun t244 => ((some (([1, 1] : List Int) : List Int)).bind fun y247 => (if t244.length + y247.length < 17592186044416 then ((some (t244 ++ y247 : List Int)).bind fun y250 => ((magnetoref03_digits.f k (Int.tmod a0_0 262144) 18).bind fun t253 => (if y250.length + t253.length < 17592186044416 then ((some (y250 ++ t253 : List Int)).bind fun y256 => ((magnetoref03_flag.f a0_2).bind fun t259 => (if y256.length < 17592186044416 then (some (y256 ++ [t259])) else (none)))) else (none)))) else (none)))) = some r := by rw [if_pos rfl] at H; exact H
  clear H
  have H := H1
  clear H1
  replace H := Option.bind_eq_some_iff.mp H
  obtain ⟨t244, A30, H⟩ := H
  replace H : ((some (([1, 1] : List Int) : List Int)).bind fun y247 => (if t244.length + y247.length < 17592186044416 then ((some (t244 ++ y247 : List Int)).bind fun y250 => ((magnetoref03_digits.f k (Int.tmod a0_0 262144) 18).bind fun t253 => (if y250.length + t253.length < 17592186044416 then ((some (y250 ++ t253 : List Int)).bind fun y256 => ((magnetoref03_flag.f a0_2).bind fun t259 => (if y256.length < 17592186044416 then (some (y256 ++ [t259])) else (none)))) else (none)))) else (none))) = some r := H
  have A3 := Aside0.mk A30
  clear A30
  obtain ⟨y247, hy247⟩ : ∃ y_ : List Int, y_ = (([1, 1] : List Int)) := ⟨_, rfl⟩
  replace H : (if t244.length + y247.length < 17592186044416 then ((some (t244 ++ y247 : List Int)).bind fun y250 => ((magnetoref03_digits.f k (Int.tmod a0_0 262144) 18).bind fun t253 => (if y250.length + t253.length < 17592186044416 then ((some (y250 ++ t253 : List Int)).bind fun y256 => ((magnetoref03_flag.f a0_2).bind fun t259 => (if y256.length < 17592186044416 then (some (y256 ++ [t259])) else (none)))) else (none)))) else (none)) = some r := by first | (rw [hy247]; with_reducible exact H) | (have H2_ := (Option.bind_some _ _).symm.trans H; rw [hy247]; with_reducible exact H2_) | (have H2_ := (Option.bind_some _ _).symm.trans H; with_reducible exact H2_) | with_reducible exact H | (rw [hy247]; exact H) | exact H
  have Ny247 := Aside0.mk hy247
  clear hy247
  by_cases c4 : t244.length + y247.length < 17592186044416
  ·
   rw [if_pos c4] at H
   have LMc4 := Aside0.mk c4
   clear c4
   obtain ⟨y250, hy250⟩ : ∃ y_ : List Int, y_ = (t244 ++ y247) := ⟨_, rfl⟩
   replace H : ((magnetoref03_digits.f k (Int.tmod a0_0 262144) 18).bind fun t253 => (if y250.length + t253.length < 17592186044416 then ((some (y250 ++ t253 : List Int)).bind fun y256 => ((magnetoref03_flag.f a0_2).bind fun t259 => (if y256.length < 17592186044416 then (some (y256 ++ [t259])) else (none)))) else (none))) = some r := by first | (rw [hy250]; with_reducible exact H) | (have H2_ := (Option.bind_some _ _).symm.trans H; rw [hy250]; with_reducible exact H2_) | (have H2_ := (Option.bind_some _ _).symm.trans H; with_reducible exact H2_) | with_reducible exact H | (rw [hy250]; exact H) | exact H
   have Ny250 := Aside0.mk hy250
   clear hy250
   replace H := Option.bind_eq_some_iff.mp H
   obtain ⟨t253, A50, H⟩ := H
   replace H : (if y250.length + t253.length < 17592186044416 then ((some (y250 ++ t253 : List Int)).bind fun y256 => ((magnetoref03_flag.f a0_2).bind fun t259 => (if y256.length < 17592186044416 then (some (y256 ++ [t259])) else (none)))) else (none)) = some r := H
   have A5 := Aside0.mk A50
   clear A50
   by_cases c6 : y250.length + t253.length < 17592186044416
   ·
    rw [if_pos c6] at H
    have LMc6 := Aside0.mk c6
    clear c6
    obtain ⟨y256, hy256⟩ : ∃ y_ : List Int, y_ = (y250 ++ t253) := ⟨_, rfl⟩
    replace H : ((magnetoref03_flag.f a0_2).bind fun t259 => (if y256.length < 17592186044416 then (some (y256 ++ [t259])) else (none))) = some r := by first | (rw [hy256]; with_reducible exact H) | (have H2_ := (Option.bind_some _ _).symm.trans H; rw [hy256]; with_reducible exact H2_) | (have H2_ := (Option.bind_some _ _).symm.trans H; with_reducible exact H2_) | with_reducible exact H | (rw [hy256]; exact H) | exact H
    have Ny256 := Aside0.mk hy256
    clear hy256
    replace H := Option.bind_eq_some_iff.mp H
    obtain ⟨t259, A70, H⟩ := H
    replace H : (if y256.length < 17592186044416 then (some (y256 ++ [t259])) else (none)) = some r := H
    have A7 := Aside0.mk A70
    clear A70
    by_cases c8 : y256.length < 17592186044416
    ·
     rw [if_pos c8] at H
     have LMc8 := Aside0.mk c8
     clear c8
     obtain ⟨y260, hy260⟩ : ∃ y_ : List Int, y_ = (y256 ++ [t259]) := ⟨_, rfl⟩
     replace H : (some y260) = some r := by first | (rw [hy260]; with_reducible exact H) | (have H2_ := (Option.bind_some _ _).symm.trans H; rw [hy260]; with_reducible exact H2_) | (have H2_ := (Option.bind_some _ _).symm.trans H; with_reducible exact H2_) | with_reducible exact H | (rw [hy260]; exact H) | exact H
     have Ny260 := Aside0.mk hy260
     clear hy260
     obtain rfl := Option.some.inj H
     go_enter Try.func51, Try.ntmps51
     go_wp2_with (first | ((with_reducible refine zqar (N := 1) rfl ?_); refine zqav ?hg (N := 1) ?hd (cs := #[.int .i64 a0_0, .bool true, .bool a0_2, .int .i64 a0_3, .int .u8 a0_4, .int .u8 a0_5, .int .u8 a0_6, .int .u8 a0_7, .int .u8 a0_8, .int .u8 a0_9, .int .u8 a0_10, .int .u8 a0_11]) (t := 24) ?hr ?_; (case hd => rfl); (case hg => rfl); (case hr => first | (go_simp; done) | (go_simp; rfl)); intro gb243 hg w9 hbox hb; have n0_ := Aside0.mk (zqak (by repeat (with_reducible first | exact HB.out | apply zqad | apply zqac | apply zqae)) hb); have n1_ := Aside0.mk (hbox); have n2_ := Aside0.mk ((by rw [hg]; exact (zqaj (by repeat (with_reducible first | exact HB.out | apply zqad | apply zqac | apply zqae))) : w.heap.size ≤ gb243)); have n3_ := Aside0.mk ((by rw [hg]; exact (zqaj (by repeat (with_reducible first | exact HB.out | apply zqad | apply zqac | apply zqae))) : w.heap.size ≤ gb243)); clear HB; have HB := n0_; have BK243 := n1_; have GW243 := n2_; have GE243 := n3_; clear n0_ n1_ n2_ n3_; clear hb hbox hg; have hcz10_0 : w9.cell? ⟨gb243, 0, none⟩ = some (.int .i64 a0_0) := (zqab BK243.out 0).trans rfl; have hcz10_1 : w9.cell? ⟨gb243, 1, none⟩ = some (.bool true) := (zqab BK243.out 1).trans rfl; have hcz10_2 : w9.cell? ⟨gb243, 2, none⟩ = some (.bool a0_2) := (zqab BK243.out 2).trans rfl; have hcz10_3 : w9.cell? ⟨gb243, 3, none⟩ = some (.int .i64 a0_3) := (zqab BK243.out 3).trans rfl; have hcz10_4 : w9.cell? ⟨gb243, 4, none⟩ = some (.int .u8 a0_4) := (zqab BK243.out 4).trans rfl; have hcz10_5 : w9.cell? ⟨gb243, 5, none⟩ = some (.int .u8 a0_5) := (zqab BK243.out 5).trans rfl; have hcz10_6 : w9.cell? ⟨gb243, 6, none⟩ = some (.int .u8 a0_6) := (zqab BK243.out 6).trans rfl; have hcz10_7 : w9.cell? ⟨gb243, 7, none⟩ = some (.int .u8 a0_7) := (zqab BK243.out 7).trans rfl; have hcz10_8 : w9.cell? ⟨gb243, 8, none⟩ = some (.int .u8 a0_8) := (zqab BK243.out 8).trans rfl; have hcz10_9 : w9.cell? ⟨gb243, 9, none⟩ = some (.int .u8 a0_9) := (zqab BK243.out 9).trans rfl; have hcz10_10 : w9.cell? ⟨gb243, 10, none⟩ = some (.int .u8 a0_10) := (zqab BK243.out 10).trans rfl; have hcz10_11 : w9.cell? ⟨gb243, 11, none⟩ = some (.int .u8 a0_11) := (zqab BK243.out 11).trans rfl; have hfz10_0 := zqaa BK243.out 0; have hfz10_1 := zqaa BK243.out 1; have hfz10_2 := zqaa BK243.out 2; have hfz10_3 := zqaa BK243.out 3; have hfz10_4 := zqaa BK243.out 4; have hfz10_5 := zqaa BK243.out 5; have hfz10_6 := zqaa BK243.out 6; have hfz10_7 := zqaa BK243.out 7; have hfz10_8 := zqaa BK243.out 8; have hfz10_9 := zqaa BK243.out 9; have hfz10_10 := zqaa BK243.out 10; have hfz10_11 := zqaa BK243.out 11) | ((with_reducible refine zqal (f := 73) rfl ?_); refine goesL_ (some 18) rfl rfl Try.func73 (by kernel_rfl) rfl #[.int .i64 (wrap64 (Int.tdiv a0_0 262144)), .int .i64 11] rfl (by (try simp only [List.map_toArray, List.map_cons, List.map_nil]); first | done | rfl | (simp only [List.length_drop, List.length_take]; rfl)) ?_; (with_reducible refine (magnetoref03_digits.calls k (wrap64 (Int.tdiv a0_0 262144)) 11 t244 _ A3.out).mono ?_); rintro e w11 ⟨v245, rfl, ho0, hb⟩; refine ⟨_, rfl, ?_⟩; have n0_ := Aside0.mk (Kd.R_lower ho0 (zqaj (by repeat (with_reducible first | exact HB.out | apply zqad | apply zqac | apply zqae | refine zqah ?_ GE243.out)))); have n1_ := Aside0.mk (zqam (g := gb243) (o := .cells #[.int .i64 a0_0, .bool true, .bool a0_2, .int .i64 a0_3, .int .u8 a0_4, .int .u8 a0_5, .int .u8 a0_6, .int .u8 a0_7, .int .u8 a0_8, .int .u8 a0_9, .int .u8 a0_10, .int .u8 a0_11] 24 (0, 0)) (by (with_reducible repeat (first | refine zqag ?_ _ | refine zqai ?_ | refine zqaf ?_ _)); exact BK243.out) hb); have n2_ := Aside0.mk (zqak (by repeat (with_reducible first | exact HB.out | apply zqad | apply zqac | apply zqae | refine zqah ?_ GE243.out)) hb); clear BK243; clear HB; have HO246 := n0_; have BK243 := n1_; have HB := n2_; clear n0_ n1_ n2_; (try clear hb); (try clear hb2); (try clear hk); (try clear hi); (try clear ho0)) | ((with_reducible refine zqar (N := 19) rfl ?_); refine Kd.R_lit (Kd.int .i64) _ 3 ?hg (N := 19) ?hd (xs := ([1, 1] : List Int)) (inner := [.int .i64 1, .int .i64 1]) (ok := fun _ => True) (okp := fun _ => True) ?hr ?hp (fun _ hk => hk) trivial (Below.refl _ _) (Nat.le_refl _) (by simp) ?_; (case hd => rfl); (case hg => rfl); (case hr => first | (go_simp; done) | (go_simp; rfl)); (case hp => exact (Reps.one (show Kd.M (Kd.int .i64) _ _ _ 1 [.int .i64 1] from rfl) (Reps.one (show Kd.M (Kd.int .i64) _ _ _ 1 [.int .i64 1] from rfl) (Reps.none _ _)))); intro v248 w12 ho13 hb hg_ hnew_; clear hg_ hnew_; (first | rw [← Ny247.out] at ho13 | (simp only [Int.reduceToNat] at ho13; rw [← Ny247.out] at ho13)); have n0_ := Aside0.mk (Kd.R_elder' (by (with_reducible repeat (first | apply Kd.R_alloc | apply Kd.R_drewN | apply Kd.R_drew)); exact HO246.out) (Kd.R_base ho13) hb); have n1_ := Aside0.mk (Kd.R_lower (Kd.R_new' ho13 (Kd.R_lt (by (with_reducible repeat (first | apply Kd.R_alloc | apply Kd.R_drewN | apply Kd.R_drew)); exact HO246.out))) (zqaj (by repeat (with_reducible first | exact HB.out | apply zqad | apply zqac | apply zqae | refine zqah ?_ GE243.out)))); have n2_ := Aside0.mk (zqam (g := gb243) (o := .cells #[.int .i64 a0_0, .bool true, .bool a0_2, .int .i64 a0_3, .int .u8 a0_4, .int .u8 a0_5, .int .u8 a0_6, .int .u8 a0_7, .int .u8 a0_8, .int .u8 a0_9, .int .u8 a0_10, .int .u8 a0_11] 24 (0, 0)) (by (with_reducible repeat (first | refine zqag ?_ _ | refine zqai ?_ | refine zqaf ?_ _)); exact BK243.out) hb); have n3_ := Aside0.mk (zqak (by repeat (with_reducible first | exact HB.out | apply zqad | apply zqac | apply zqae | refine zqah ?_ GE243.out)) hb); clear HO246; clear BK243; clear HB; have HO246 := n0_; have HO249 := n1_; have BK243 := n2_; have HB := n3_; clear n0_ n1_ n2_ n3_; clear hb ho13; obtain ⟨Ao15, co15, eo15⟩ := Kd.R_slice HO249.out; subst eo15) | ((with_reducible refine zqao (b := .append) (xs := #[.tmp 18, .tmp 19]) rfl ?_); at_builtin; refine Kd.R_append_rows (Kd.int .i64) (w0 := w) w.heap.size rfl (.tmp 18) (.tmp 19) 25 3 (.int .i64 0) 8 rfl Try.underlying25 info3 rfl (by decide) (by omega) v245 t244 y247 _ _ _ (fun k_ => some k_ ≠ (.slice Ao15 y247.length co15 : Value).ownBlock) (fun _ => False) rfl rfl ?aO ?aR (fun _ _ h => h) (fun _ h => h.elim) ?aF ?aB ?aS ?aL ?_; (case aR => repeat (first | exact (Kd.R_reads' HO249.out).2.2 | (with_reducible refine Kd.C_alloc ?_ _) | (with_reducible refine Kd.C_drewN ?_ _) | (with_reducible refine Kd.C_drew ?_))); (case aB => exact (by repeat (with_reducible first | exact HB.out | apply zqad | apply zqac | apply zqae | refine zqah ?_ GE243.out))); (case aF => exact (fun k_ hk => Kd.fresh' (Kd.R_lt (by (with_reducible repeat (first | apply Kd.R_alloc | apply Kd.R_drewN | apply Kd.R_drew)); exact HO249.out)) k_ hk)); (case aO => exact (by (with_reducible repeat (first | apply Kd.R_alloc | apply Kd.R_drewN | apply Kd.R_drew)); exact Kd.R_mono HO246.out (fun _ hk => hk.2))); (case aS => exact (zqaj (by repeat (with_reducible first | exact HB.out | apply zqad | apply zqac | apply zqae | refine zqah ?_ GE243.out)))); (case aL => have := LMc4.out; omega); intro v251 w14 ho hb hg hat; rw [← Ny250.out] at ho; have n0_ := Aside0.mk (zqaw (g := gb243) (o := .cells #[.int .i64 a0_0, .bool true, .bool a0_2, .int .i64 a0_3, .int .u8 a0_4, .int .u8 a0_5, .int .u8 a0_6, .int .u8 a0_7, .int .u8 a0_8, .int .u8 a0_9, .int .u8 a0_10, .int .u8 a0_11] 24 (0, 0)) (by (with_reducible repeat (first | refine zqag ?_ _ | refine zqai ?_ | refine zqaf ?_ _)); exact BK243.out) hg (Kd.R_ne HO246.out BK243.out (by decide))); have n1_ := Aside0.mk (Kd.R_after (ok := (fun _ => True)) (by (with_reducible repeat (first | apply Kd.R_alloc | apply Kd.R_drewN | apply Kd.R_drew)); exact HO249.out) hg hat); have n2_ := Aside0.mk (hb); have n3_ := Aside0.mk (ho); clear BK243; clear HO249; clear HB; clear HO246; have BK243 := n0_; have HO249 := n1_; have HB := n2_; have HO252 := n3_; clear n0_ n1_ n2_ n3_; clear ho hb hg hat; have hcz16_0 : w14.cell? ⟨gb243, 0, none⟩ = some (.int .i64 a0_0) := (zqab BK243.out 0).trans rfl; have hcz16_1 : w14.cell? ⟨gb243, 1, none⟩ = some (.bool true) := (zqab BK243.out 1).trans rfl; have hcz16_2 : w14.cell? ⟨gb243, 2, none⟩ = some (.bool a0_2) := (zqab BK243.out 2).trans rfl; have hcz16_3 : w14.cell? ⟨gb243, 3, none⟩ = some (.int .i64 a0_3) := (zqab BK243.out 3).trans rfl; have hcz16_4 : w14.cell? ⟨gb243, 4, none⟩ = some (.int .u8 a0_4) := (zqab BK243.out 4).trans rfl; have hcz16_5 : w14.cell? ⟨gb243, 5, none⟩ = some (.int .u8 a0_5) := (zqab BK243.out 5).trans rfl; have hcz16_6 : w14.cell? ⟨gb243, 6, none⟩ = some (.int .u8 a0_6) := (zqab BK243.out 6).trans rfl; have hcz16_7 : w14.cell? ⟨gb243, 7, none⟩ = some (.int .u8 a0_7) := (zqab BK243.out 7).trans rfl; have hcz16_8 : w14.cell? ⟨gb243, 8, none⟩ = some (.int .u8 a0_8) := (zqab BK243.out 8).trans rfl; have hcz16_9 : w14.cell? ⟨gb243, 9, none⟩ = some (.int .u8 a0_9) := (zqab BK243.out 9).trans rfl; have hcz16_10 : w14.cell? ⟨gb243, 10, none⟩ = some (.int .u8 a0_10) := (zqab BK243.out 10).trans rfl; have hcz16_11 : w14.cell? ⟨gb243, 11, none⟩ = some (.int .u8 a0_11) := (zqab BK243.out 11).trans rfl; have hfz16_0 := zqaa BK243.out 0; have hfz16_1 := zqaa BK243.out 1; have hfz16_2 := zqaa BK243.out 2; have hfz16_3 := zqaa BK243.out 3; have hfz16_4 := zqaa BK243.out 4; have hfz16_5 := zqaa BK243.out 5; have hfz16_6 := zqaa BK243.out 6; have hfz16_7 := zqaa BK243.out 7; have hfz16_8 := zqaa BK243.out 8; have hfz16_9 := zqaa BK243.out 9; have hfz16_10 := zqaa BK243.out 10; have hfz16_11 := zqaa BK243.out 11) | ((with_reducible refine zqal (f := 73) rfl ?_); refine goesL_ (some 25) rfl rfl Try.func73 (by kernel_rfl) rfl #[.int .i64 (Int.tmod a0_0 262144), .int .i64 18] rfl (by (try simp only [List.map_toArray, List.map_cons, List.map_nil]); first | done | rfl | (simp only [List.length_drop, List.length_take]; rfl)) ?_; (with_reducible refine (magnetoref03_digits.calls k (Int.tmod a0_0 262144) 18 t253 _ A5.out).mono ?_); rintro e w17 ⟨v254, rfl, ho0, hb⟩; refine ⟨_, rfl, ?_⟩; have n0_ := Aside0.mk (Kd.R_elder' (by (with_reducible repeat (first | apply Kd.R_alloc | apply Kd.R_drewN | apply Kd.R_drew)); exact HO249.out) (Kd.R_base ho0) hb); have n1_ := Aside0.mk (Kd.R_elder' (by (with_reducible repeat (first | apply Kd.R_alloc | apply Kd.R_drewN | apply Kd.R_drew)); exact HO252.out) (Kd.R_base ho0) hb); have n2_ := Aside0.mk (Kd.R_lower (Kd.R_new' (Kd.R_new' ho0 (Kd.R_lt (by (with_reducible repeat (first | apply Kd.R_alloc | apply Kd.R_drewN | apply Kd.R_drew)); exact HO249.out))) (Kd.R_lt (by (with_reducible repeat (first | apply Kd.R_alloc | apply Kd.R_drewN | apply Kd.R_drew)); exact HO252.out))) (zqaj (by repeat (with_reducible first | exact HB.out | apply zqad | apply zqac | apply zqae | refine zqah ?_ GE243.out)))); have n3_ := Aside0.mk (zqam (g := gb243) (o := .cells #[.int .i64 a0_0, .bool true, .bool a0_2, .int .i64 a0_3, .int .u8 a0_4, .int .u8 a0_5, .int .u8 a0_6, .int .u8 a0_7, .int .u8 a0_8, .int .u8 a0_9, .int .u8 a0_10, .int .u8 a0_11] 24 (0, 0)) (by (with_reducible repeat (first | refine zqag ?_ _ | refine zqai ?_ | refine zqaf ?_ _)); exact BK243.out) hb); have n4_ := Aside0.mk (zqak (by repeat (with_reducible first | exact HB.out | apply zqad | apply zqac | apply zqae | refine zqah ?_ GE243.out)) hb); clear HO249; clear HO252; clear BK243; clear HB; have HO249 := n0_; have HO252 := n1_; have HO255 := n2_; have BK243 := n3_; have HB := n4_; clear n0_ n1_ n2_ n3_ n4_; (try clear hb); (try clear hb2); (try clear hk); (try clear hi); (try clear ho0); obtain ⟨Ao19, co19, eo19⟩ := Kd.R_slice HO255.out; subst eo19) | ((with_reducible refine zqao (b := .append) (xs := #[.tmp 21, .tmp 25]) rfl ?_); at_builtin; refine Kd.R_append_rows (Kd.int .i64) (w0 := w) w.heap.size rfl (.tmp 21) (.tmp 25) 25 3 (.int .i64 0) 8 rfl Try.underlying25 info3 rfl (by decide) (by omega) v251 y250 t253 _ _ _ (fun k_ => some k_ ≠ (.slice Ao15 y247.length co15 : Value).ownBlock ∧ some k_ ≠ (.slice Ao19 t253.length co19 : Value).ownBlock) (fun _ => False) rfl rfl ?aO ?aR (fun _ _ h => h) (fun _ h => h.elim) ?aF ?aB ?aS ?aL ?_; (case aR => repeat (first | exact (Kd.R_reads' HO255.out).2.2 | (with_reducible refine Kd.C_alloc ?_ _) | (with_reducible refine Kd.C_drewN ?_ _) | (with_reducible refine Kd.C_drew ?_))); (case aB => exact (by repeat (with_reducible first | exact HB.out | apply zqad | apply zqac | apply zqae | refine zqah ?_ GE243.out))); (case aF => exact (fun k_ hk => ⟨Kd.fresh' (Kd.R_lt (by (with_reducible repeat (first | apply Kd.R_alloc | apply Kd.R_drewN | apply Kd.R_drew)); exact HO249.out)) k_ hk, Kd.fresh' (Kd.R_lt (by (with_reducible repeat (first | apply Kd.R_alloc | apply Kd.R_drewN | apply Kd.R_drew)); exact HO255.out)) k_ hk⟩)); (case aO => exact (by (with_reducible repeat (first | apply Kd.R_alloc | apply Kd.R_drewN | apply Kd.R_drew)); exact HO252.out)); (case aS => exact (zqaj (by repeat (with_reducible first | exact HB.out | apply zqad | apply zqac | apply zqae | refine zqah ?_ GE243.out)))); (case aL => have := LMc6.out; omega); intro v257 w18 ho hb hg hat; rw [← Ny256.out] at ho; have n0_ := Aside0.mk (zqaw (g := gb243) (o := .cells #[.int .i64 a0_0, .bool true, .bool a0_2, .int .i64 a0_3, .int .u8 a0_4, .int .u8 a0_5, .int .u8 a0_6, .int .u8 a0_7, .int .u8 a0_8, .int .u8 a0_9, .int .u8 a0_10, .int .u8 a0_11] 24 (0, 0)) (by (with_reducible repeat (first | refine zqag ?_ _ | refine zqai ?_ | refine zqaf ?_ _)); exact BK243.out) hg (Kd.R_ne HO252.out BK243.out (by decide))); have n1_ := Aside0.mk (Kd.R_after (ok := (fun k_ => some k_ ≠ (.slice Ao19 t253.length co19 : Value).ownBlock)) (by (with_reducible repeat (first | apply Kd.R_alloc | apply Kd.R_drewN | apply Kd.R_drew)); exact Kd.R_mono HO249.out (fun _ hk => ⟨hk.2, hk.1.2⟩)) hg hat); have n2_ := Aside0.mk (Kd.R_after (ok := (fun k_ => some k_ ≠ (.slice Ao15 y247.length co15 : Value).ownBlock)) (by (with_reducible repeat (first | apply Kd.R_alloc | apply Kd.R_drewN | apply Kd.R_drew)); exact Kd.R_mono HO255.out (fun _ hk => ⟨hk.1.2, hk.2⟩)) hg hat); have n3_ := Aside0.mk (hb); have n4_ := Aside0.mk (ho); clear BK243; clear HO249; clear HO255; clear HB; clear HO252; have BK243 := n0_; have HO249 := n1_; have HO255 := n2_; have HB := n3_; have HO258 := n4_; clear n0_ n1_ n2_ n3_ n4_; clear ho hb hg hat; have hcz20_0 : w18.cell? ⟨gb243, 0, none⟩ = some (.int .i64 a0_0) := (zqab BK243.out 0).trans rfl; have hcz20_1 : w18.cell? ⟨gb243, 1, none⟩ = some (.bool true) := (zqab BK243.out 1).trans rfl; have hcz20_2 : w18.cell? ⟨gb243, 2, none⟩ = some (.bool a0_2) := (zqab BK243.out 2).trans rfl; have hcz20_3 : w18.cell? ⟨gb243, 3, none⟩ = some (.int .i64 a0_3) := (zqab BK243.out 3).trans rfl; have hcz20_4 : w18.cell? ⟨gb243, 4, none⟩ = some (.int .u8 a0_4) := (zqab BK243.out 4).trans rfl; have hcz20_5 : w18.cell? ⟨gb243, 5, none⟩ = some (.int .u8 a0_5) := (zqab BK243.out 5).trans rfl; have hcz20_6 : w18.cell? ⟨gb243, 6, none⟩ = some (.int .u8 a0_6) := (zqab BK243.out 6).trans rfl; have hcz20_7 : w18.cell? ⟨gb243, 7, none⟩ = some (.int .u8 a0_7) := (zqab BK243.out 7).trans rfl; have hcz20_8 : w18.cell? ⟨gb243, 8, none⟩ = some (.int .u8 a0_8) := (zqab BK243.out 8).trans rfl; have hcz20_9 : w18.cell? ⟨gb243, 9, none⟩ = some (.int .u8 a0_9) := (zqab BK243.out 9).trans rfl; have hcz20_10 : w18.cell? ⟨gb243, 10, none⟩ = some (.int .u8 a0_10) := (zqab BK243.out 10).trans rfl; have hcz20_11 : w18.cell? ⟨gb243, 11, none⟩ = some (.int .u8 a0_11) := (zqab BK243.out 11).trans rfl; have hfz20_0 := zqaa BK243.out 0; have hfz20_1 := zqaa BK243.out 1; have hfz20_2 := zqaa BK243.out 2; have hfz20_3 := zqaa BK243.out 3; have hfz20_4 := zqaa BK243.out 4; have hfz20_5 := zqaa BK243.out 5; have hfz20_6 := zqaa BK243.out 6; have hfz20_7 := zqaa BK243.out 7; have hfz20_8 := zqaa BK243.out 8; have hfz20_9 := zqaa BK243.out 9; have hfz20_10 := zqaa BK243.out 10; have hfz20_11 := zqaa BK243.out 11) | ((with_reducible refine zqal (f := 74) rfl ?_); refine goesL_ (some 30) rfl rfl Try.func74 (by kernel_rfl) rfl #[.bool a0_2] rfl (by (try simp only [List.map_toArray, List.map_cons, List.map_nil]); first | done | rfl | (simp only [List.length_drop, List.length_take]; rfl)) ?_; (with_reducible refine (magnetoref03_flag.calls a0_2 t259 _ A7.out).mono ?_); rintro e w' ⟨rfl, ⟨nd, rfl⟩⟩; refine ⟨_, rfl, ?_⟩) | ((with_reducible refine zqao (b := .append) (xs := #[.tmp 27, .tmp 31]) rfl ?_); at_builtin; refine Kd.R_append (Kd.int .i64) (w0 := w) w.heap.size rfl (.tmp 27) (.tmp 31) 25 3 (.int .i64 0) 8 rfl Try.underlying25 info3 rfl (by decide) (by omega) v257 y256 t259 [.int .i64 t259] (fun k_ => some k_ ≠ (.slice Ao15 y247.length co15 : Value).ownBlock ∧ some k_ ≠ (.slice Ao19 t253.length co19 : Value).ownBlock) (fun _ => False) rfl rfl ?aP (fun _ hk => hk.elim) ?aF ?aO ?aB ?aS ?aL ?_; (case aP => exact rfl); (case aB => exact (by repeat (with_reducible first | exact HB.out | apply zqad | apply zqac | apply zqae | refine zqah ?_ GE243.out))); (case aF => exact (fun k_ hk => ⟨Kd.fresh' (Kd.R_lt (by (with_reducible repeat (first | apply Kd.R_alloc | apply Kd.R_drewN | apply Kd.R_drew)); exact HO249.out)) k_ hk, Kd.fresh' (Kd.R_lt (by (with_reducible repeat (first | apply Kd.R_alloc | apply Kd.R_drewN | apply Kd.R_drew)); exact HO255.out)) k_ hk⟩)); (case aO => exact (by (with_reducible repeat (first | apply Kd.R_alloc | apply Kd.R_drewN | apply Kd.R_drew)); exact HO258.out)); (case aS => exact (zqaj (by repeat (with_reducible first | exact HB.out | apply zqad | apply zqac | apply zqae | refine zqah ?_ GE243.out)))); (case aL => have := LMc8.out; omega); intro v261 w21 ho hb hg hat; rw [← Ny260.out] at ho; have n0_ := Aside0.mk (zqaw (g := gb243) (o := .cells #[.int .i64 a0_0, .bool true, .bool a0_2, .int .i64 a0_3, .int .u8 a0_4, .int .u8 a0_5, .int .u8 a0_6, .int .u8 a0_7, .int .u8 a0_8, .int .u8 a0_9, .int .u8 a0_10, .int .u8 a0_11] 24 (0, 0)) (by (with_reducible repeat (first | refine zqag ?_ _ | refine zqai ?_ | refine zqaf ?_ _)); exact BK243.out) hg (Kd.R_ne HO258.out BK243.out (by decide))); have n1_ := Aside0.mk (Kd.R_after (ok := (fun k_ => some k_ ≠ (.slice Ao19 t253.length co19 : Value).ownBlock)) (by (with_reducible repeat (first | apply Kd.R_alloc | apply Kd.R_drewN | apply Kd.R_drew)); exact HO249.out) hg hat); have n2_ := Aside0.mk (Kd.R_after (ok := (fun k_ => some k_ ≠ (.slice Ao15 y247.length co15 : Value).ownBlock)) (by (with_reducible repeat (first | apply Kd.R_alloc | apply Kd.R_drewN | apply Kd.R_drew)); exact HO255.out) hg hat); have n3_ := Aside0.mk (hb); have n4_ := Aside0.mk (ho); clear BK243; clear HO249; clear HO255; clear HB; clear HO258; have BK243 := n0_; have HO249 := n1_; have HO255 := n2_; have HB := n3_; have HO262 := n4_; clear n0_ n1_ n2_ n3_ n4_; clear ho hb hg hat))
     go_ret
     exact ⟨_, by first | rfl | (simp [errW_none, errW_some] <;> rfl) | (simp [*, errW_none, errW_some] <;> rfl), by (with_reducible repeat (first | apply Kd.R_alloc | apply Kd.R_drewN | apply Kd.R_drew)); exact Kd.R_mono HO262.out (fun _ hk => trivial), by repeat (with_reducible first | exact HB.out | apply zqad | apply zqac | apply zqae | refine zqah ?_ GE243.out)⟩
    ·
     rw [if_neg c8] at H
     exact absurd H (by simp)
   ·
    rw [if_neg c6] at H
    exact absurd H (by simp)
  ·
   rw [if_neg c4] at H
   exact absurd H (by simp)
 ·
  replace c2 := Bool.eq_false_iff.mpr c2
  subst c2
  have H1 : ((magnetoref03_digits.f k a0_0 11).bind fun t263 => ((magnetoref03_flag.f a0_2).bind fun t266 => ((some (([t266, 0] : List Int) : List Int)).bind fun y267 => (if t263.length + y267.length < 17592186044416 then (some (t263 ++ y267)) else (none))))) = some r := by rw [if_neg (show ¬ (false = true) by decide)] at H; exact H
  clear H
  have H := H1
  clear H1
  replace H := Option.bind_eq_some_iff.mp H
  obtain ⟨t263, A220, H⟩ := H
  replace H : ((magnetoref03_flag.f a0_2).bind fun t266 => ((some (([t266, 0] : List Int) : List Int)).bind fun y267 => (if t263.length + y267.length < 17592186044416 then (some (t263 ++ y267)) else (none)))) = some r := H
  have A22 := Aside0.mk A220
  clear A220
  replace H := Option.bind_eq_some_iff.mp H
  obtain ⟨t266, A230, H⟩ := H
  replace H : ((some (([t266, 0] : List Int) : List Int)).bind fun y267 => (if t263.length + y267.length < 17592186044416 then (some (t263 ++ y267)) else (none))) = some r := H
  have A23 := Aside0.mk A230
  clear A230
  obtain ⟨y267, hy267⟩ : ∃ y_ : List Int, y_ = (([t266, 0] : List Int)) := ⟨_, rfl⟩
  replace H : (if t263.length + y267.length < 17592186044416 then (some (t263 ++ y267)) else (none)) = some r := by first | (rw [hy267]; with_reducible exact H) | (have H2_ := (Option.bind_some _ _).symm.trans H; rw [hy267]; with_reducible exact H2_) | (have H2_ := (Option.bind_some _ _).symm.trans H; with_reducible exact H2_) | with_reducible exact H | (rw [hy267]; exact H) | exact H
  have Ny267 := Aside0.mk hy267
  clear hy267
  by_cases c24 : t263.length + y267.length < 17592186044416
  ·
   rw [if_pos c24] at H
   have LMc24 := Aside0.mk c24
   clear c24
   obtain ⟨y270, hy270⟩ : ∃ y_ : List Int, y_ = (t263 ++ y267) := ⟨_, rfl⟩
   replace H : (some y270) = some r := by first | (rw [hy270]; with_reducible exact H) | (have H2_ := (Option.bind_some _ _).symm.trans H; rw [hy270]; with_reducible exact H2_) | (have H2_ := (Option.bind_some _ _).symm.trans H; with_reducible exact H2_) | with_reducible exact H | (rw [hy270]; exact H) | exact H
   have Ny270 := Aside0.mk hy270
   clear hy270
   obtain rfl := Option.some.inj H
   go_enter Try.func51, Try.ntmps51
   try go_wp2_with (first | ((with_reducible refine zqar (N := 1) rfl ?_); refine zqav ?hg (N := 1) ?hd (cs := #[.int .i64 a0_0, .bool false, .bool a0_2, .int .i64 a0_3, .int .u8 a0_4, .int .u8 a0_5, .int .u8 a0_6, .int .u8 a0_7, .int .u8 a0_8, .int .u8 a0_9, .int .u8 a0_10, .int .u8 a0_11]) (t := 24) ?hr ?_; (case hd => rfl); (case hg => rfl); (case hr => first | (go_simp; done) | (go_simp; rfl)); intro gb243 hg w25 hbox hb; have n0_ := Aside0.mk (zqak (by repeat (with_reducible first | exact HB.out | apply zqad | apply zqac | apply zqae)) hb); have n1_ := Aside0.mk (hbox); have n2_ := Aside0.mk ((by rw [hg]; exact (zqaj (by repeat (with_reducible first | exact HB.out | apply zqad | apply zqac | apply zqae))) : w.heap.size ≤ gb243)); have n3_ := Aside0.mk ((by rw [hg]; exact (zqaj (by repeat (with_reducible first | exact HB.out | apply zqad | apply zqac | apply zqae))) : w.heap.size ≤ gb243)); clear HB; have HB := n0_; have BK243 := n1_; have GW243 := n2_; have GE243 := n3_; clear n0_ n1_ n2_ n3_; clear hb hbox hg; have hcz26_0 : w25.cell? ⟨gb243, 0, none⟩ = some (.int .i64 a0_0) := (zqab BK243.out 0).trans rfl; have hcz26_1 : w25.cell? ⟨gb243, 1, none⟩ = some (.bool false) := (zqab BK243.out 1).trans rfl; have hcz26_2 : w25.cell? ⟨gb243, 2, none⟩ = some (.bool a0_2) := (zqab BK243.out 2).trans rfl; have hcz26_3 : w25.cell? ⟨gb243, 3, none⟩ = some (.int .i64 a0_3) := (zqab BK243.out 3).trans rfl; have hcz26_4 : w25.cell? ⟨gb243, 4, none⟩ = some (.int .u8 a0_4) := (zqab BK243.out 4).trans rfl; have hcz26_5 : w25.cell? ⟨gb243, 5, none⟩ = some (.int .u8 a0_5) := (zqab BK243.out 5).trans rfl; have hcz26_6 : w25.cell? ⟨gb243, 6, none⟩ = some (.int .u8 a0_6) := (zqab BK243.out 6).trans rfl; have hcz26_7 : w25.cell? ⟨gb243, 7, none⟩ = some (.int .u8 a0_7) := (zqab BK243.out 7).trans rfl; have hcz26_8 : w25.cell? ⟨gb243, 8, none⟩ = some (.int .u8 a0_8) := (zqab BK243.out 8).trans rfl; have hcz26_9 : w25.cell? ⟨gb243, 9, none⟩ = some (.int .u8 a0_9) := (zqab BK243.out 9).trans rfl; have hcz26_10 : w25.cell? ⟨gb243, 10, none⟩ = some (.int .u8 a0_10) := (zqab BK243.out 10).trans rfl; have hcz26_11 : w25.cell? ⟨gb243, 11, none⟩ = some (.int .u8 a0_11) := (zqab BK243.out 11).trans rfl; have hfz26_0 := zqaa BK243.out 0; have hfz26_1 := zqaa BK243.out 1; have hfz26_2 := zqaa BK243.out 2; have hfz26_3 := zqaa BK243.out 3; have hfz26_4 := zqaa BK243.out 4; have hfz26_5 := zqaa BK243.out 5; have hfz26_6 := zqaa BK243.out 6; have hfz26_7 := zqaa BK243.out 7; have hfz26_8 := zqaa BK243.out 8; have hfz26_9 := zqaa BK243.out 9; have hfz26_10 := zqaa BK243.out 10; have hfz26_11 := zqaa BK243.out 11))
   have n0_ := Aside0.mk (zqai BK243.out)
   have n1_ := Aside0.mk (zqae HB.out)
   clear BK243
   clear HB
   have BK243 := n0_
   have HB := n1_
   clear n0_ n1_
   refine start_ (n := 9) (S := fun w' => w'.cell? ⟨gb243, 0, none⟩ = some (.int .i64 a0_0) ∧ w'.cell? ⟨gb243, 1, none⟩ = some (.bool false) ∧ w'.cell? ⟨gb243, 2, none⟩ = some (.bool a0_2) ∧ w'.cell? ⟨gb243, 3, none⟩ = some (.int .i64 a0_3) ∧ w'.cell? ⟨gb243, 4, none⟩ = some (.int .u8 a0_4) ∧ w'.cell? ⟨gb243, 5, none⟩ = some (.int .u8 a0_5) ∧ w'.cell? ⟨gb243, 6, none⟩ = some (.int .u8 a0_6) ∧ w'.cell? ⟨gb243, 7, none⟩ = some (.int .u8 a0_7) ∧ w'.cell? ⟨gb243, 8, none⟩ = some (.int .u8 a0_8) ∧ w'.cell? ⟨gb243, 9, none⟩ = some (.int .u8 a0_9) ∧ w'.cell? ⟨gb243, 10, none⟩ = some (.int .u8 a0_10) ∧ w'.cell? ⟨gb243, 11, none⟩ = some (.int .u8 a0_11)) (ds := []) #[false, false, false, false, false, false, false, false, false] (by kernel_rfl) rfl rfl ⟨(zqab BK243.out 0).trans rfl, (zqab BK243.out 1).trans rfl, (zqab BK243.out 2).trans rfl, (zqab BK243.out 3).trans rfl, (zqab BK243.out 4).trans rfl, (zqab BK243.out 5).trans rfl, (zqab BK243.out 6).trans rfl, (zqab BK243.out 7).trans rfl, (zqab BK243.out 8).trans rfl, (zqab BK243.out 9).trans rfl, (zqab BK243.out 10).trans rfl, (zqab BK243.out 11).trans rfl⟩ (fun hHeld => ?_); refine with_tabW magnetoref03_Arb.tab2 magnetoref03_Arb.bits2 (fun HT_ HW_ => ?_)
   generalize w25.drew = w27 at BK243 HB hHeld ⊢
   refine pure_ (i := 0) (N := some 7) (v := ?_) (a' := ?_) #[true, false, false, false, false, false, false, false, false] rfl rfl (any_of HT_.out (by kernel_rfl)) (fun _ _ _ h => h) (Or.inl ⟨by rfl, ?_⟩) ?_ ?_
   rotate_left
   ·
    intro w'
    go_simp
    with_reducible rfl
   rotate_left
   ·
    simp only [Act.put, List.setIfInBounds_toArray, List.set_cons_zero, List.set_cons_succ, i64_w, i32_w]
    rfl
   refine pure_ (i := 3) (N := some 10) (v := ?_) (a' := ?_) #[true, false, false, true, false, false, false, false, false] rfl rfl (any_of HT_.out (by kernel_rfl)) (fun _ _ _ h => h) (Or.inl ⟨by rfl, ?_⟩) ?_ ?_
   rotate_left
   ·
    intro w'
    go_simp
    with_reducible rfl
   rotate_left
   ·
    simp only [Act.put, List.setIfInBounds_toArray, List.set_cons_zero, List.set_cons_succ, i64_w, i32_w]
    rfl
   refine take_ (i := 1) (N := some 8) (v := ?_) (a' := ?_) #[true, true, false, true, false, false, false, false, false] rfl rfl (take_ofW HT_.out HW_.out (by kernel_rfl)) (fun _ _ _ h => h) (Or.inl ⟨by rfl, ?_⟩) hHeld ?_ ?_
   rotate_left
   ·
    rintro w' ⟨s0, s1, s2, s3, s4, s5, s6, s7, s8, s9, s10, s11⟩
    go_simp
    with_reducible rfl
   rotate_left
   ·
    simp only [Act.put, List.setIfInBounds_toArray, List.set_cons_zero, List.set_cons_succ, i64_w, i32_w]
    rfl
   refine take_ (i := 4) (N := some 11) (v := ?_) (a' := ?_) #[true, true, false, true, true, false, false, false, false] rfl rfl (take_ofW HT_.out HW_.out (by kernel_rfl)) (fun _ _ _ h => h) (Or.inl ⟨by rfl, ?_⟩) hHeld ?_ ?_
   rotate_left
   ·
    rintro w' ⟨s0, s1, s2, s3, s4, s5, s6, s7, s8, s9, s10, s11⟩
    go_simp
    with_reducible rfl
   rotate_left
   ·
    simp only [Act.put, List.setIfInBounds_toArray, List.set_cons_zero, List.set_cons_succ, i64_w, i32_w]
    rfl
   refine one_ (i := 2) (N := some 9) #[true, true, true, true, true, false, false, false, false] rfl rfl (one_of HT_.out (by kernel_rfl)) (by decide) (fun K hK => ?_)
   refine goes_ Try.func73 (by kernel_rfl) rfl #[.int .i64 a0_0, .int .i64 11] (by rfl) rfl rfl (by (try simp only [List.map_toArray, List.map_cons, List.map_nil]); first | done | rfl | (simp only [List.length_drop, List.length_take]; rfl)) ?_
   with_reducible refine (magnetoref03_digits.calls k a0_0 11 t263 _ A22.out).mono ?_
   rintro e w28 ⟨v264, rfl, ho0, hb⟩
   refine ⟨_, rfl, ?_⟩
   have n0_ := Aside0.mk (Kd.R_lower ho0 (zqaj (by repeat (with_reducible first | exact HB.out | apply zqad | apply zqac | apply zqae | refine zqah ?_ GE243.out))))
   have n1_ := Aside0.mk (zqam (g := gb243) (o := .cells #[.int .i64 a0_0, .bool false, .bool a0_2, .int .i64 a0_3, .int .u8 a0_4, .int .u8 a0_5, .int .u8 a0_6, .int .u8 a0_7, .int .u8 a0_8, .int .u8 a0_9, .int .u8 a0_10, .int .u8 a0_11] 24 (0, 0)) (by (with_reducible repeat (first | refine zqag ?_ _ | refine zqai ?_ | refine zqaf ?_ _)); exact BK243.out) hb)
   have n2_ := Aside0.mk (zqak (by repeat (with_reducible first | exact HB.out | apply zqad | apply zqac | apply zqae | refine zqah ?_ GE243.out)) hb)
   clear BK243
   clear HB
   have HO265 := n0_
   have BK243 := n1_
   have HB := n2_
   clear n0_ n1_ n2_
   (try clear hb)
   (try clear hb2)
   (try clear hk)
   (try clear hi)
   (try clear ho0)
   refine hK.out _ _ ⟨(zqab BK243.out 0).trans rfl, (zqab BK243.out 1).trans rfl, (zqab BK243.out 2).trans rfl, (zqab BK243.out 3).trans rfl, (zqab BK243.out 4).trans rfl, (zqab BK243.out 5).trans rfl, (zqab BK243.out 6).trans rfl, (zqab BK243.out 7).trans rfl, (zqab BK243.out 8).trans rfl, (zqab BK243.out 9).trans rfl, (zqab BK243.out 10).trans rfl, (zqab BK243.out 11).trans rfl⟩ (fun hHeld => ?_)
   clear hK K
   refine norm_ (a' := ?_) ?_ ?_
   rotate_left
   ·
    show Act.put _ (some 9) _ = _
    simp only [Act.put, List.setIfInBounds_toArray, List.set_cons_zero, List.set_cons_succ, i64_w, i32_w]
    rfl
   refine one_ (i := 5) (N := some 12) #[true, true, true, true, true, true, false, false, false] rfl rfl (one_of HT_.out (by kernel_rfl)) (by decide) (fun K hK => ?_)
   refine goes_ Try.func74 (by kernel_rfl) rfl #[.bool a0_2] (by rfl) rfl rfl (by (try simp only [List.map_toArray, List.map_cons, List.map_nil]); first | done | rfl | (simp only [List.length_drop, List.length_take]; rfl)) ?_
   with_reducible refine (magnetoref03_flag.calls a0_2 t266 _ A23.out).mono ?_
   rintro e w' ⟨rfl, ⟨nd, rfl⟩⟩
   refine ⟨_, rfl, ?_⟩
   refine hK.out _ _ ⟨(zqab BK243.out 0).trans rfl, (zqab BK243.out 1).trans rfl, (zqab BK243.out 2).trans rfl, (zqab BK243.out 3).trans rfl, (zqab BK243.out 4).trans rfl, (zqab BK243.out 5).trans rfl, (zqab BK243.out 6).trans rfl, (zqab BK243.out 7).trans rfl, (zqab BK243.out 8).trans rfl, (zqab BK243.out 9).trans rfl, (zqab BK243.out 10).trans rfl, (zqab BK243.out 11).trans rfl⟩ (fun hHeld => ?_)
   clear hK K
   refine norm_ (a' := ?_) ?_ ?_
   rotate_left
   ·
    show Act.put _ (some 12) _ = _
    simp only [Act.put, List.setIfInBounds_toArray, List.set_cons_zero, List.set_cons_succ, i64_w, i32_w]
    rfl
   refine one_ (i := 6) (N := some 13) #[true, true, true, true, true, true, true, false, false] rfl rfl (one_of HT_.out (by kernel_rfl)) (by decide) (fun K hK => ?_)
   refine Kd.R_lit_step (Kd.int .i64) _ 3 ?hg (N := 13) ?hd (xs := ([t266, 0] : List Int)) (inner := [.int .i64 t266, .int .i64 0]) (ok := fun _ => True) (okp := fun _ => True) ?hr ?hp (fun _ hk => hk) trivial (Below.refl _ _) (Nat.le_refl _) (by simp) ?_; (case hd => rfl); (case hg => rfl); (case hr => first | (go_simp; done) | (go_simp; rfl)); (case hp => exact (Reps.one (show Kd.M (Kd.int .i64) _ _ _ t266 [.int .i64 t266] from rfl) (Reps.one (show Kd.M (Kd.int .i64) _ _ _ 0 [.int .i64 0] from rfl) (Reps.none _ _))))
   intro v268 w29 ho30 hb hg_ hnew_
   clear hg_ hnew_
   (first | rw [← Ny267.out] at ho30 | (simp only [Int.reduceToNat] at ho30; rw [← Ny267.out] at ho30))
   have n0_ := Aside0.mk (Kd.R_elder' (by (with_reducible repeat (first | apply Kd.R_alloc | apply Kd.R_drewN | apply Kd.R_drew)); exact HO265.out) (Kd.R_base ho30) hb)
   have n1_ := Aside0.mk (Kd.R_lower (Kd.R_new' ho30 (Kd.R_lt (by (with_reducible repeat (first | apply Kd.R_alloc | apply Kd.R_drewN | apply Kd.R_drew)); exact HO265.out))) (zqaj (by repeat (with_reducible first | exact HB.out | apply zqad | apply zqac | apply zqae | refine zqah ?_ GE243.out))))
   have n2_ := Aside0.mk (zqam (g := gb243) (o := .cells #[.int .i64 a0_0, .bool false, .bool a0_2, .int .i64 a0_3, .int .u8 a0_4, .int .u8 a0_5, .int .u8 a0_6, .int .u8 a0_7, .int .u8 a0_8, .int .u8 a0_9, .int .u8 a0_10, .int .u8 a0_11] 24 (0, 0)) (by (with_reducible repeat (first | refine zqag ?_ _ | refine zqai ?_ | refine zqaf ?_ _)); exact BK243.out) hb)
   have n3_ := Aside0.mk (zqak (by repeat (with_reducible first | exact HB.out | apply zqad | apply zqac | apply zqae | refine zqah ?_ GE243.out)) hb)
   clear HO265
   clear BK243
   clear HB
   have HO265 := n0_
   have HO269 := n1_
   have BK243 := n2_
   have HB := n3_
   clear n0_ n1_ n2_ n3_
   clear hb ho30
   obtain ⟨Ao32, co32, eo32⟩ := Kd.R_slice HO269.out
   (first | subst eo32 | (injection eo32 with f1_ f2_ f3_; have f4_ := f1_.symm; have f5_ := f3_.symm; clear f1_ f2_ f3_; subst f4_; subst f5_))
   refine hK.out _ _ ⟨(zqab BK243.out 0).trans rfl, (zqab BK243.out 1).trans rfl, (zqab BK243.out 2).trans rfl, (zqab BK243.out 3).trans rfl, (zqab BK243.out 4).trans rfl, (zqab BK243.out 5).trans rfl, (zqab BK243.out 6).trans rfl, (zqab BK243.out 7).trans rfl, (zqab BK243.out 8).trans rfl, (zqab BK243.out 9).trans rfl, (zqab BK243.out 10).trans rfl, (zqab BK243.out 11).trans rfl⟩ (fun hHeld => ?_)
   clear hK K
   refine norm_ (a' := ?_) ?_ ?_
   rotate_left
   ·
    show Act.put _ (some 13) _ = _
    simp only [Act.put, List.setIfInBounds_toArray, List.set_cons_zero, List.set_cons_succ, i64_w, i32_w]
    rfl
   refine one_ (i := 7) (N := some 14) #[true, true, true, true, true, true, true, true, false] rfl rfl (one_of HT_.out (by kernel_rfl)) (by decide) (fun K hK => ?_)
   refine Kd.R_append_rows_step (Kd.int .i64) (w0 := w) w.heap.size (by rfl) (.tmp 9) (.tmp 13) 25 3 (.int .i64 0) 8 rfl Try.underlying25 info3 rfl (by decide) (by omega) v264 t263 y267 _ _ _ (fun k_ => some k_ ≠ (.slice Ao32 y267.length co32 : Value).ownBlock) (fun _ => False) rfl rfl ?aO ?aR (fun _ _ h => h) (fun _ h => h.elim) ?aF ?aB ?aS ?aL ?_
   (case aR => repeat (first | exact (Kd.R_reads' HO269.out).2.2 | (with_reducible refine Kd.C_alloc ?_ _) | (with_reducible refine Kd.C_drewN ?_ _) | (with_reducible refine Kd.C_drew ?_)))
   (case aB => exact (by repeat (with_reducible first | exact HB.out | apply zqad | apply zqac | apply zqae | refine zqah ?_ GE243.out)))
   (case aF => exact (fun k_ hk => Kd.fresh' (Kd.R_lt (by (with_reducible repeat (first | apply Kd.R_alloc | apply Kd.R_drewN | apply Kd.R_drew)); exact HO269.out)) k_ hk))
   (case aO => exact (by (with_reducible repeat (first | apply Kd.R_alloc | apply Kd.R_drewN | apply Kd.R_drew)); exact Kd.R_mono HO265.out (fun _ hk => hk.2)))
   (case aS => exact (zqaj (by repeat (with_reducible first | exact HB.out | apply zqad | apply zqac | apply zqae | refine zqah ?_ GE243.out))))
   (case aL => have := LMc24.out; omega)
   intro v271 w31 ho hb hg hat
   rw [← Ny270.out] at ho
   have n0_ := Aside0.mk (zqaw (g := gb243) (o := .cells #[.int .i64 a0_0, .bool false, .bool a0_2, .int .i64 a0_3, .int .u8 a0_4, .int .u8 a0_5, .int .u8 a0_6, .int .u8 a0_7, .int .u8 a0_8, .int .u8 a0_9, .int .u8 a0_10, .int .u8 a0_11] 24 (0, 0)) (by (with_reducible repeat (first | refine zqag ?_ _ | refine zqai ?_ | refine zqaf ?_ _)); exact BK243.out) hg (Kd.R_ne HO265.out BK243.out (by decide)))
   have n1_ := Aside0.mk (Kd.R_after (ok := (fun _ => True)) (by (with_reducible repeat (first | apply Kd.R_alloc | apply Kd.R_drewN | apply Kd.R_drew)); exact HO269.out) hg hat)
   have n2_ := Aside0.mk (hb)
   have n3_ := Aside0.mk (ho)
   clear BK243
   clear HO269
   clear HB
   clear HO265
   have BK243 := n0_
   have HO269 := n1_
   have HB := n2_
   have HO272 := n3_
   clear n0_ n1_ n2_ n3_
   clear ho hb hg hat
   refine hK.out _ _ ⟨(zqab BK243.out 0).trans rfl, (zqab BK243.out 1).trans rfl, (zqab BK243.out 2).trans rfl, (zqab BK243.out 3).trans rfl, (zqab BK243.out 4).trans rfl, (zqab BK243.out 5).trans rfl, (zqab BK243.out 6).trans rfl, (zqab BK243.out 7).trans rfl, (zqab BK243.out 8).trans rfl, (zqab BK243.out 9).trans rfl, (zqab BK243.out 10).trans rfl, (zqab BK243.out 11).trans rfl⟩ (fun hHeld => ?_)
   clear hK K
   refine norm_ (a' := ?_) ?_ ?_
   rotate_left
   ·
    show Act.put _ (some 14) _ = _
    simp only [Act.put, List.setIfInBounds_toArray, List.set_cons_zero, List.set_cons_succ, i64_w, i32_w]
    rfl
   refine pure_ (i := 8) (N := some 2) (v := ?_) (a' := ?_) #[true, true, true, true, true, true, true, true, true] rfl rfl (any_of HT_.out (by kernel_rfl)) (fun _ _ _ h => h) (Or.inl ⟨by rfl, ?_⟩) ?_ ?_
   rotate_left
   ·
    intro w'
    go_simp
    with_reducible rfl
   rotate_left
   ·
    simp only [Act.put, List.setIfInBounds_toArray, List.set_cons_zero, List.set_cons_succ, i64_w, i32_w]
    rfl
   refine done_ (done_of HT_.out (by kernel_rfl)) ?_
   try go_wp2
   go_ret
   exact ⟨_, by first | rfl | (simp [errW_none, errW_some] <;> rfl) | (simp [*, errW_none, errW_some] <;> rfl), by (with_reducible repeat (first | apply Kd.R_alloc | apply Kd.R_drewN | apply Kd.R_drew)); exact Kd.R_mono HO272.out (fun _ hk => trivial), by repeat (with_reducible first | exact HB.out | apply zqad | apply zqac | apply zqae | refine zqah ?_ GE243.out)⟩
  ·
   rw [if_neg c24] at H
   exact absurd H (by simp)

/-! ### magnetoref04_digits: function 52 -/
def magnetoref04_digits.f : Nat → Int → Int → Option (List Int)
 | 0, _, _ => none
 | k + 1, a0, a1 => if a1 = 0 then (some ([] : List Int)) else ((magnetoref04_digits.f k (wrap64 (Int.tdiv a0 2)) (wrap64 (a1 - 1))).bind fun t273 => (if t273.length < 17592186044416 then (some (t273 ++ [Int.tmod a0 2])) else (none)))
theorem magnetoref04_digits.mono_l : ∀ k, (∀ y0 y1, LeO (magnetoref04_digits.f k y0 y1) (magnetoref04_digits.f (k + 1) y0 y1))
 | 0 => fun _ _ r h => by simp [magnetoref04_digits.f] at h
 | k + 1 => by
  have ih0 := magnetoref04_digits.mono_l k
  ·
   intro y0 y1
   unfold magnetoref04_digits.f
   repeat' first
   | (with_reducible exact ih0 _ _)
   | (with_reducible exact LeO.refl _)
   | (with_reducible exact LeO.none _)
   | (with_reducible refine LeO.ite ?_ ?_)
   | (with_reducible refine LeO.bind ?_ (fun _ => ?_))
   | exact ih0 _ _
   | exact LeO.none _
   | refine LeO.ite ?_ ?_
   | refine LeO.bind ?_ (fun _ => ?_)
theorem magnetoref04_digits.mono : ∀ a0 a1 k, LeO (magnetoref04_digits.f k a0 a1) (magnetoref04_digits.f (k + 1) a0 a1) := by
 intro a0 a1 k
 have ih0 := magnetoref04_digits.mono_l k
 exact ih0 a0 a1
set_option maxHeartbeats 8000000 in
set_option maxRecDepth 100000 in
theorem magnetoref04_digits.calls (k : Nat) : ∀ (a0 : Int) (a1 : Int) (r : List Int) (w : World) (h : magnetoref04_digits.f k a0 a1 = some r),
  Calls Try.prog 52 #[.int .i64 a0, .int .i64 a1] w fun e w' => ∃ v0_ : Value, e = .returned (v0_) ∧ Kd.R (Kd.int .i64) 3 w' w.heap.size (fun _ => True) v0_ r ∧ Below w.heap.size w w' := by
 induction k using Nat.strongRecOn with
 | _ k ih =>
 intro a0 a1 r w h
 cases k with
 | zero => exact absurd h (by simp [magnetoref04_digits.f])
 | succ k =>
 simp only [magnetoref04_digits.f] at h
 have HB := Aside0.mk (Below.refl w.heap.size w)
 have H : (if a1 = 0 then (some ([] : List Int)) else ((magnetoref04_digits.f k (wrap64 (Int.tdiv a0 2)) (wrap64 (a1 - 1))).bind fun t273 => (if t273.length < 17592186044416 then (some (t273 ++ [Int.tmod a0 2])) else (none)))) = some r := h
 clear h
 by_cases c3 : a1 = 0
 ·
  rw [if_pos c3] at H
  have c3b0 : (a1 == 0) = true := beq_iff_eq.mpr c3
  have c3b1 : (a1 != 0) = false := bne_eq_false_iff_eq.mpr c3
  clear c3
  obtain rfl := Option.some.inj H
  go_enter Try.func52, Try.ntmps52
  go_wp2
  go_ret
  exact ⟨_, by first | rfl | (simp [errW_none, errW_some] <;> rfl) | (simp [*, errW_none, errW_some] <;> rfl), by first | exact Kd.R_nil _ _ _ _ _ | exact Kd.N_nil _ _ _ _ _ | exact Kd.V_nil _ _ _ _ _ | exact Kd.Q_nil _ _ _ _ _ | exact Kd.S_nil _ _ _ _ _, by repeat (with_reducible first | exact HB.out | apply zqad | apply zqac | apply zqae)⟩
 ·
  rw [if_neg c3] at H
  have c3b0 : (a1 == 0) = false := beq_eq_false_iff_ne.mpr c3
  have c3b1 : (a1 != 0) = true := bne_iff_ne.mpr c3
  replace H := Option.bind_eq_some_iff.mp H
  obtain ⟨t273, A40, H⟩ := H
  replace H : (if t273.length < 17592186044416 then (some (t273 ++ [Int.tmod a0 2])) else (none)) = some r := H
  have A4 := Aside0.mk A40
  clear A40
  by_cases c5 : t273.length < 17592186044416
  ·
   rw [if_pos c5] at H
   have LMc5 := Aside0.mk c5
   clear c5
   obtain ⟨y276, hy276⟩ : ∃ y_ : List Int, y_ = (t273 ++ [Int.tmod a0 2]) := ⟨_, rfl⟩
   replace H : (some y276) = some r := by first | (rw [hy276]; with_reducible exact H) | (have H2_ := (Option.bind_some _ _).symm.trans H; rw [hy276]; with_reducible exact H2_) | (have H2_ := (Option.bind_some _ _).symm.trans H; with_reducible exact H2_) | with_reducible exact H | (rw [hy276]; exact H) | exact H
   have Ny276 := Aside0.mk hy276
   clear hy276
   obtain rfl := Option.some.inj H
   go_enter Try.func52, Try.ntmps52
   go_wp2_with (first | ((with_reducible refine zqal (f := 52) rfl ?_); refine goesL_ (some 11) rfl rfl Try.func52 (by kernel_rfl) rfl #[.int .i64 (wrap64 (Int.tdiv a0 2)), .int .i64 (wrap64 (a1 - 1))] rfl (by (try simp only [List.map_toArray, List.map_cons, List.map_nil]); first | done | rfl | (simp only [List.length_drop, List.length_take]; rfl)) ?_; (with_reducible refine (ih k (by omega) (wrap64 (Int.tdiv a0 2)) (wrap64 (a1 - 1)) t273 _ A4.out).mono ?_); rintro e w6 ⟨v274, rfl, ho0, hb⟩; refine ⟨_, rfl, ?_⟩; have n0_ := Aside0.mk (Kd.R_lower ho0 (zqaj (by repeat (with_reducible first | exact HB.out | apply zqad | apply zqac | apply zqae)))); have n1_ := Aside0.mk (zqak (by repeat (with_reducible first | exact HB.out | apply zqad | apply zqac | apply zqae)) hb); clear HB; have HO275 := n0_; have HB := n1_; clear n0_ n1_; (try clear hb); (try clear hb2); (try clear hk); (try clear hi); (try clear ho0)) | ((with_reducible refine zqao (b := .append) (xs := #[.tmp 11, .tmp 14]) rfl ?_); at_builtin; refine Kd.R_append (Kd.int .i64) (w0 := w) w.heap.size rfl (.tmp 11) (.tmp 14) 25 3 (.int .i64 0) 8 rfl Try.underlying25 info3 rfl (by decide) (by omega) v274 t273 (Int.tmod a0 2) [.int .i64 (Int.tmod a0 2)] (fun _ => True) (fun _ => False) rfl rfl ?aP (fun _ hk => hk.elim) ?aF ?aO ?aB ?aS ?aL ?_; (case aP => exact rfl); (case aB => exact (by repeat (with_reducible first | exact HB.out | apply zqad | apply zqac | apply zqae))); (case aF => exact (fun _ _ => trivial)); (case aO => exact (by (with_reducible repeat (first | apply Kd.R_alloc | apply Kd.R_drewN | apply Kd.R_drew)); exact HO275.out)); (case aS => exact (zqaj (by repeat (with_reducible first | exact HB.out | apply zqad | apply zqac | apply zqae)))); (case aL => have := LMc5.out; omega); intro v277 w7 ho hb hg hat; rw [← Ny276.out] at ho; have n0_ := Aside0.mk (hb); have n1_ := Aside0.mk (ho); clear HB; clear HO275; have HB := n0_; have HO278 := n1_; clear n0_ n1_; clear ho hb hg hat))
   go_ret
   exact ⟨_, by first | rfl | (simp [errW_none, errW_some] <;> rfl) | (simp [*, errW_none, errW_some] <;> rfl), by (with_reducible repeat (first | apply Kd.R_alloc | apply Kd.R_drewN | apply Kd.R_drew)); exact HO278.out, by repeat (with_reducible first | exact HB.out | apply zqad | apply zqac | apply zqae)⟩
  ·
   rw [if_neg c5] at H
   exact absurd H (by simp)

end Go.Proofs.Ytakemodmdhglnaa.PA
