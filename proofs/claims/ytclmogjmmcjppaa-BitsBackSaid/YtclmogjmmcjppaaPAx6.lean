-- PRINTED by print.py (a twelfth state) out of the translation. Not trusted: Lean checks it.
import Derived.Test.YtclmogjmmcjppaaPAx0
import Derived.Test.YtclmogjmmcjppaaPAx1
import Derived.Test.YtclmogjmmcjppaaPAx2
import Derived.Test.YtclmogjmmcjppaaPAx3
namespace Go.Proofs.Ytclmogjmmcjppaa.PA
open Go.RowKit Go.Proofs.YtclmogjmmcjppaaW.PrintWords Go.Proofs.YtclmogjmmcjppaaW.PrintLast Go.Proofs.YtclmogjmmcjppaaW.PrintMore
attribute [local go_sem] max2_int min2_int max_two min_two max_three min_three max_four min_four   -- for this text's walks alone
set_option linter.unusedVariables false
set_option linter.unusedSimpArgs false

/-! ### magnetolaw01_BitsBack: function 5 -/
mutual
def magnetolaw01_BitsBack.j0 : Nat → List Int → ByteArray → Int → Bool → Option (Bool)
  | 0, _, _, _, _ => none
  | k + 1, x0, x1, x2, x37 => if x37 = true then ((magnetolaw01_awake.f k).bind fun t204 => (some t204)) else ((bits_Text.f k x0).bind fun bt205 => (if bt205.2.2 = 0 then ((bits_Parse.f k bt205.1).bind fun bt208 => (if bt208.2.2 = 0 then ((magnetolaw01_ints.f k bt208.1 x0).bind fun t213 => (if t213 = true then (if (bt205.1.size : Int) = (x0.length : Int) then (magnetolaw01_BitsBack.j1 k x0 x1 x2) else (none)) else (none))) else (none))) else ((bits_Check.f x0).bind fun t214 => (if t214 < 0 then (none) else (magnetolaw01_BitsBack.j1 k x0 x1 x2)))))
def magnetolaw01_BitsBack.j1 : Nat → List Int → ByteArray → Int → Option (Bool)
  | 0, _, _, _ => none
  | k + 1, x0, x1, x2 => (bits_Parse.f k x1).bind fun bt215 => (if bt215.2.2 = 0 then ((bits_Text.f k bt215.1).bind fun bt220 => (if bt220.2.2 = 0 then (if bt220.1.toList = x1.toList then (magnetolaw01_BitsBack.j2 k x0 x2) else (none)) else (none))) else (magnetolaw01_BitsBack.j2 k x0 x2))
def magnetolaw01_BitsBack.j2 : Nat → List Int → Int → Option (Bool)
  | 0, _, _ => none
  | k + 1, x0, x2 => magnetolaw01_BitsBack.l0 k x0 x2 0
def magnetolaw01_BitsBack.l0 : Nat → List Int → Int → Int → Option (Bool)
  | 0, _, _, _ => none
  | k + 1, x0, x2, x19 => if x19 ≤ 64 then ((bits_Of.f k x2 x19).bind fun bt223 => ((bits_Value.f k bt223.1).bind fun bt227 => (if bt223.2 = 0 then (if bt227.2 = 0 then (if (bt223.1.length : Int) = x19 then (if x19 < 64 then (if 0 ≤ x19 then (if (shl .u64 1 x19) = 0 then (none) else (if bt227.1 = (Int.tmod x2 (shl .u64 1 x19)) then (if x19 = 64 then (if bt227.1 = x2 then (magnetolaw01_BitsBack.l0 k x0 x2 (wrap64 (x19 + 1))) else (none)) else (magnetolaw01_BitsBack.l0 k x0 x2 (wrap64 (x19 + 1)))) else (none))) else (none)) else (if x19 = 64 then (if bt227.1 = x2 then (magnetolaw01_BitsBack.l0 k x0 x2 (wrap64 (x19 + 1))) else (none)) else (magnetolaw01_BitsBack.l0 k x0 x2 (wrap64 (x19 + 1))))) else (none)) else (none)) else (none)))) else ((bits_Value.f k x0).bind fun bt229 => (if bt229.2 = 0 then ((bits_Of.f k bt229.1 (x0.length : Int)).bind fun bt234 => (if bt234.2 = 0 then ((magnetolaw01_ints.f k bt234.1 x0).bind fun t238 => (if t238 = true then (magnetolaw01_BitsBack.j4 k x0 bt229.1 bt234.1 bt234.2 ((x0.length : Int) == 64)) else (magnetolaw01_BitsBack.j4 k x0 bt229.1 bt234.1 bt234.2 true))) else (magnetolaw01_BitsBack.j4 k x0 bt229.1 bt234.1 bt234.2 true))) else (if (x0.length : Int) > 64 then ((magnetolaw01_awake.f k).bind fun t231 => (some t231)) else ((bits_Check.f x0).bind fun t232 => (if t232 ≥ 0 then ((magnetolaw01_awake.f k).bind fun t233 => (some t233)) else (none))))))
def magnetolaw01_BitsBack.j4 : Nat → List Int → Int → List Int → Int → Bool → Option (Bool)
  | 0, _, _, _, _, _ => none
  | k + 1, x0, x24, x26, x27, x177 => if x177 = true then (if x27 = 0 then ((magnetolaw01_ints.f k x26 x0).bind fun t239 => (if t239 = true then ((magnetolaw01_awake.f k).bind fun t240 => (some t240)) else (none))) else (none)) else ((some (([0] : List Int) : List Int)).bind fun y241 => (if y241.length + x0.length < 17592186044416 then ((bits_Value.f k (y241 ++ x0)).bind fun bt247 => (if bt247.2 = 0 then (if bt247.1 = x24 then ((magnetolaw01_awake.f k).bind fun t249 => (some t249)) else (none)) else (none))) else (none)))
end
def magnetolaw01_BitsBack.f (k : Nat) (l0 : List Int) (a1 : ByteArray) (a2 : Int) : Option (Bool) := if (l0.length : Int) > 300 then (magnetolaw01_BitsBack.j0 k l0 a1 a2 true) else (magnetolaw01_BitsBack.j0 k l0 a1 a2 (decide ((a1.size : Int) > 300)))
theorem magnetolaw01_BitsBack.mono_l : ∀ k, (∀ y0 y1 y2 y3, LeO (magnetolaw01_BitsBack.j0 k y0 y1 y2 y3) (magnetolaw01_BitsBack.j0 (k + 1) y0 y1 y2 y3)) ∧ (∀ y0 y1 y2, LeO (magnetolaw01_BitsBack.j1 k y0 y1 y2) (magnetolaw01_BitsBack.j1 (k + 1) y0 y1 y2)) ∧ (∀ y0 y1, LeO (magnetolaw01_BitsBack.j2 k y0 y1) (magnetolaw01_BitsBack.j2 (k + 1) y0 y1)) ∧ (∀ y0 y1 y2, LeO (magnetolaw01_BitsBack.l0 k y0 y1 y2) (magnetolaw01_BitsBack.l0 (k + 1) y0 y1 y2)) ∧ (∀ y0 y1 y2 y3 y4, LeO (magnetolaw01_BitsBack.j4 k y0 y1 y2 y3 y4) (magnetolaw01_BitsBack.j4 (k + 1) y0 y1 y2 y3 y4))
  | 0 => ⟨fun _ _ _ _ r h => by simp [magnetolaw01_BitsBack.j0] at h, fun _ _ _ r h => by simp [magnetolaw01_BitsBack.j1] at h, fun _ _ r h => by simp [magnetolaw01_BitsBack.j2] at h, fun _ _ _ r h => by simp [magnetolaw01_BitsBack.l0] at h, fun _ _ _ _ _ r h => by simp [magnetolaw01_BitsBack.j4] at h⟩
  | k + 1 => by
    obtain ⟨ih0, ih1, ih2, ih3, ih4⟩ := magnetolaw01_BitsBack.mono_l k
    refine ⟨?_, ?_, ?_, ?_, ?_⟩
    · intro y0 y1 y2 y3
      unfold magnetolaw01_BitsBack.j0
      repeat' first
      | (with_reducible exact ih0 _ _ _ _)
      | (with_reducible exact ih1 _ _ _)
      | (with_reducible exact ih2 _ _)
      | (with_reducible exact ih3 _ _ _)
      | (with_reducible exact ih4 _ _ _ _ _)
      | (with_reducible exact bits_Of.mono _ _ _)
      | (with_reducible exact bits_Parse.mono _ _)
      | (with_reducible exact bits_Text.mono _ _)
      | (with_reducible exact bits_Value.mono _ _)
      | (with_reducible exact magnetolaw01_awake.mono _)
      | (with_reducible exact magnetolaw01_ints.mono _ _ _)
      | (with_reducible exact LeO.refl _)
      | (with_reducible exact LeO.none _)
      | (with_reducible refine LeO.ite ?_ ?_)
      | (with_reducible refine LeO.bind ?_ (fun _ => ?_))
      | exact ih0 _ _ _ _
      | exact ih1 _ _ _
      | exact ih2 _ _
      | exact ih3 _ _ _
      | exact ih4 _ _ _ _ _
      | exact bits_Of.mono _ _ _
      | exact bits_Parse.mono _ _
      | exact bits_Text.mono _ _
      | exact bits_Value.mono _ _
      | exact magnetolaw01_awake.mono _
      | exact magnetolaw01_ints.mono _ _ _
      | exact LeO.none _
      | refine LeO.ite ?_ ?_
      | refine LeO.bind ?_ (fun _ => ?_)
    · intro y0 y1 y2
      unfold magnetolaw01_BitsBack.j1
      repeat' first
      | (with_reducible exact ih0 _ _ _ _)
      | (with_reducible exact ih1 _ _ _)
      | (with_reducible exact ih2 _ _)
      | (with_reducible exact ih3 _ _ _)
      | (with_reducible exact ih4 _ _ _ _ _)
      | (with_reducible exact bits_Of.mono _ _ _)
      | (with_reducible exact bits_Parse.mono _ _)
      | (with_reducible exact bits_Text.mono _ _)
      | (with_reducible exact bits_Value.mono _ _)
      | (with_reducible exact magnetolaw01_awake.mono _)
      | (with_reducible exact magnetolaw01_ints.mono _ _ _)
      | (with_reducible exact LeO.refl _)
      | (with_reducible exact LeO.none _)
      | (with_reducible refine LeO.ite ?_ ?_)
      | (with_reducible refine LeO.bind ?_ (fun _ => ?_))
      | exact ih0 _ _ _ _
      | exact ih1 _ _ _
      | exact ih2 _ _
      | exact ih3 _ _ _
      | exact ih4 _ _ _ _ _
      | exact bits_Of.mono _ _ _
      | exact bits_Parse.mono _ _
      | exact bits_Text.mono _ _
      | exact bits_Value.mono _ _
      | exact magnetolaw01_awake.mono _
      | exact magnetolaw01_ints.mono _ _ _
      | exact LeO.none _
      | refine LeO.ite ?_ ?_
      | refine LeO.bind ?_ (fun _ => ?_)
    · intro y0 y1
      unfold magnetolaw01_BitsBack.j2
      repeat' first
      | (with_reducible exact ih0 _ _ _ _)
      | (with_reducible exact ih1 _ _ _)
      | (with_reducible exact ih2 _ _)
      | (with_reducible exact ih3 _ _ _)
      | (with_reducible exact ih4 _ _ _ _ _)
      | (with_reducible exact bits_Of.mono _ _ _)
      | (with_reducible exact bits_Parse.mono _ _)
      | (with_reducible exact bits_Text.mono _ _)
      | (with_reducible exact bits_Value.mono _ _)
      | (with_reducible exact magnetolaw01_awake.mono _)
      | (with_reducible exact magnetolaw01_ints.mono _ _ _)
      | (with_reducible exact LeO.refl _)
      | (with_reducible exact LeO.none _)
      | (with_reducible refine LeO.ite ?_ ?_)
      | (with_reducible refine LeO.bind ?_ (fun _ => ?_))
      | exact ih0 _ _ _ _
      | exact ih1 _ _ _
      | exact ih2 _ _
      | exact ih3 _ _ _
      | exact ih4 _ _ _ _ _
      | exact bits_Of.mono _ _ _
      | exact bits_Parse.mono _ _
      | exact bits_Text.mono _ _
      | exact bits_Value.mono _ _
      | exact magnetolaw01_awake.mono _
      | exact magnetolaw01_ints.mono _ _ _
      | exact LeO.none _
      | refine LeO.ite ?_ ?_
      | refine LeO.bind ?_ (fun _ => ?_)
    · intro y0 y1 y2
      unfold magnetolaw01_BitsBack.l0
      repeat' first
      | (with_reducible exact ih0 _ _ _ _)
      | (with_reducible exact ih1 _ _ _)
      | (with_reducible exact ih2 _ _)
      | (with_reducible exact ih3 _ _ _)
      | (with_reducible exact ih4 _ _ _ _ _)
      | (with_reducible exact bits_Of.mono _ _ _)
      | (with_reducible exact bits_Parse.mono _ _)
      | (with_reducible exact bits_Text.mono _ _)
      | (with_reducible exact bits_Value.mono _ _)
      | (with_reducible exact magnetolaw01_awake.mono _)
      | (with_reducible exact magnetolaw01_ints.mono _ _ _)
      | (with_reducible exact LeO.refl _)
      | (with_reducible exact LeO.none _)
      | (with_reducible refine LeO.ite ?_ ?_)
      | (with_reducible refine LeO.bind ?_ (fun _ => ?_))
      | exact ih0 _ _ _ _
      | exact ih1 _ _ _
      | exact ih2 _ _
      | exact ih3 _ _ _
      | exact ih4 _ _ _ _ _
      | exact bits_Of.mono _ _ _
      | exact bits_Parse.mono _ _
      | exact bits_Text.mono _ _
      | exact bits_Value.mono _ _
      | exact magnetolaw01_awake.mono _
      | exact magnetolaw01_ints.mono _ _ _
      | exact LeO.none _
      | refine LeO.ite ?_ ?_
      | refine LeO.bind ?_ (fun _ => ?_)
    · intro y0 y1 y2 y3 y4
      unfold magnetolaw01_BitsBack.j4
      repeat' first
      | (with_reducible exact ih0 _ _ _ _)
      | (with_reducible exact ih1 _ _ _)
      | (with_reducible exact ih2 _ _)
      | (with_reducible exact ih3 _ _ _)
      | (with_reducible exact ih4 _ _ _ _ _)
      | (with_reducible exact bits_Of.mono _ _ _)
      | (with_reducible exact bits_Parse.mono _ _)
      | (with_reducible exact bits_Text.mono _ _)
      | (with_reducible exact bits_Value.mono _ _)
      | (with_reducible exact magnetolaw01_awake.mono _)
      | (with_reducible exact magnetolaw01_ints.mono _ _ _)
      | (with_reducible exact LeO.refl _)
      | (with_reducible exact LeO.none _)
      | (with_reducible refine LeO.ite ?_ ?_)
      | (with_reducible refine LeO.bind ?_ (fun _ => ?_))
      | exact ih0 _ _ _ _
      | exact ih1 _ _ _
      | exact ih2 _ _
      | exact ih3 _ _ _
      | exact ih4 _ _ _ _ _
      | exact bits_Of.mono _ _ _
      | exact bits_Parse.mono _ _
      | exact bits_Text.mono _ _
      | exact bits_Value.mono _ _
      | exact magnetolaw01_awake.mono _
      | exact magnetolaw01_ints.mono _ _ _
      | exact LeO.none _
      | refine LeO.ite ?_ ?_
      | refine LeO.bind ?_ (fun _ => ?_)
theorem magnetolaw01_BitsBack.mono : ∀ a0 a1 a2 k, LeO (magnetolaw01_BitsBack.f k a0 a1 a2) (magnetolaw01_BitsBack.f (k + 1) a0 a1 a2) := by
  intro a0 a1 a2 k
  obtain ⟨ih0, ih1, ih2, ih3, ih4⟩ := magnetolaw01_BitsBack.mono_l k
  unfold magnetolaw01_BitsBack.f
  repeat' first
      | (with_reducible exact ih0 _ _ _ _)
      | (with_reducible exact ih1 _ _ _)
      | (with_reducible exact ih2 _ _)
      | (with_reducible exact ih3 _ _ _)
      | (with_reducible exact ih4 _ _ _ _ _)
      | (with_reducible exact bits_Of.mono _ _ _)
      | (with_reducible exact bits_Parse.mono _ _)
      | (with_reducible exact bits_Text.mono _ _)
      | (with_reducible exact bits_Value.mono _ _)
      | (with_reducible exact magnetolaw01_awake.mono _)
      | (with_reducible exact magnetolaw01_ints.mono _ _ _)
      | (with_reducible exact LeO.refl _)
      | (with_reducible exact LeO.none _)
      | (with_reducible refine LeO.ite ?_ ?_)
      | (with_reducible refine LeO.bind ?_ (fun _ => ?_))
      | exact ih0 _ _ _ _
      | exact ih1 _ _ _
      | exact ih2 _ _
      | exact ih3 _ _ _
      | exact ih4 _ _ _ _ _
      | exact bits_Of.mono _ _ _
      | exact bits_Parse.mono _ _
      | exact bits_Text.mono _ _
      | exact bits_Value.mono _ _
      | exact magnetolaw01_awake.mono _
      | exact magnetolaw01_ints.mono _ _ _
      | exact LeO.none _
      | refine LeO.ite ?_ ?_
      | refine LeO.bind ?_ (fun _ => ?_)
set_option maxHeartbeats 8000000 in
set_option maxRecDepth 100000 in
theorem magnetolaw01_BitsBack.calls (k : Nat) (A0 : Option Addr) (c0 : Nat) (l0 : List Int) (a1 : ByteArray) (a2 : Int) (r : Bool) (w : World) (hr0 : Kd.C (Kd.int .i64) w A0 l0.length l0) (hc0 : l0.length ≤ c0) (h : magnetolaw01_BitsBack.f k l0 a1 a2 = some r) :
    Calls Try.prog 5 #[.slice A0 l0.length c0, .string a1, .int .u64 a2] w fun e w' => e = .returned (.bool r) ∧ Below w.heap.size w w' := by
  have HR0 := Aside0.mk hr0
  have HC0 := Aside0.mk hc0
  clear hr0 hc0
  have HB := Aside0.mk (Below.refl w.heap.size w)
  have H : (if (l0.length : Int) > 300 then (magnetolaw01_BitsBack.j0 k l0 a1 a2 true) else (magnetolaw01_BitsBack.j0 k l0 a1 a2 (decide ((a1.size : Int) > 300)))) = some r := h
  clear h
  have HC4 := Aside0.mk H
  clear H
  go_enter Try.func5, Try.ntmps5
  go_upto_region 1 with (fail)
  go_cut [37] (fun v37 wc => ∃ (kq : Nat) (x37_3 : Bool), v37 = .bool x37_3 ∧ Aside0 (magnetolaw01_BitsBack.j0 kq l0 a1 a2 x37_3 = some r) ∧ Aside0 (kq ≤ k) ∧ Aside0 (Below w.heap.size w wc))
  case first =>
    have H := HC4.out
    clear HC4
    by_cases c5 : (l0.length : Int) > 300
    · rw [if_pos c5] at H
      have c5b0 : decide (300 < (l0.length : Int)) = true := decide_eq_true c5
      have c5b1 : decide (300 < l0.length) = true := decide_eq_true (by omega)
      clear c5
      (first | rw [c5b0] | (simp only [i64_w, i32_w]; rw [c5b0]) | skip)
      have H' := Aside0.mk H
      clear H
      go_wp2
      go_meet
      case rel => exact ⟨_, (true), (by first | rfl | (simp; done) | (simp [*]; done)), H', ⟨by first | omega | exact Nat.le_refl _⟩, ⟨by repeat (first | (with_reducible first | exact HB.out | apply below_alloc | apply pw_below_drewN | apply below_drew1) | exact HB.out)⟩⟩
    · rw [if_neg c5] at H
      have c5b0 : decide (300 < (l0.length : Int)) = false := decide_eq_false c5
      have c5b1 : decide (300 < l0.length) = false := decide_eq_false (by omega)
      clear c5
      (first | rw [c5b0] | (simp only [i64_w, i32_w]; rw [c5b0]) | skip)
      have H' := Aside0.mk H
      clear H
      go_wp2
      go_meet
      case rel => exact ⟨_, (decide ((a1.size : Int) > 300)), (by first | rfl | (simp; done) | (simp [*]; done)), H', ⟨by first | omega | exact Nat.le_refl _⟩, ⟨by repeat (first | (with_reducible first | exact HB.out | apply below_alloc | apply pw_below_drewN | apply below_drew1) | exact HB.out)⟩⟩
  case rest =>
    clear HC4
    try clear p2
    try clear c5
    try clear c5b0
    try clear c5b1
    obtain ⟨kq, x37_3, rfl, HA, HJ3, HB⟩ := hcut
    cases kq with
    | zero => exact absurd HA.out (by simp [magnetolaw01_BitsBack.j0])
    | succ kj3 =>
      have H := HA.out
      clear HA
      simp only [magnetolaw01_BitsBack.j0] at H
      by_cases c6 : x37_3 = true
      · subst c6
        have H1 : ((magnetolaw01_awake.f kj3).bind fun t204 => (some t204)) = some r := by rw [if_pos rfl] at H; exact H
        clear H
        have H := H1
        clear H1
        replace H := Option.bind_eq_some_iff.mp H
        obtain ⟨t204, A70, H⟩ := H
        replace H : (some t204) = some r := H
        have A7 := Aside0.mk A70
        clear A70
        obtain rfl := Option.some.inj H
        go_wp2_with (first | ((with_reducible refine gate_callee (f := 21) rfl ?_); refine goesL_ (some 38) rfl rfl Try.func21 (by kernel_rfl) rfl #[] rfl (by (try simp only [List.map_toArray, List.map_cons, List.map_nil]); first | done | rfl | (simp only [List.length_drop, List.length_take]; rfl)) ?_; (with_reducible refine (magnetolaw01_awake.calls kj3  t204 _ A7.out).mono ?_); rintro e w8 ⟨rfl, hb⟩; refine ⟨_, rfl, ?_⟩; have n0_ := Aside0.mk (below_step (by repeat (first | (with_reducible first | exact HB.out | apply below_alloc | apply pw_below_drewN | apply below_drew1) | exact HB.out)) hb); clear HB; have HB := n0_; clear n0_; (try clear hb); (try clear hb2); (try clear hk); (try clear hi)))
        go_ret
        exact ⟨by first | rfl | (simp [errW_none, errW_some] <;> rfl) | (simp [*, errW_none, errW_some] <;> rfl), by repeat (first | (with_reducible first | exact HB.out | apply below_alloc | apply pw_below_drewN | apply below_drew1) | exact HB.out)⟩
      · replace c6 := Bool.eq_false_iff.mpr c6
        subst c6
        have H1 : ((bits_Text.f kj3 l0).bind fun bt205 => (if bt205.2.2 = 0 then ((bits_Parse.f kj3 bt205.1).bind fun bt208 => (if bt208.2.2 = 0 then ((magnetolaw01_ints.f kj3 bt208.1 l0).bind fun t213 => (if t213 = true then (if (bt205.1.size : Int) = (l0.length : Int) then (magnetolaw01_BitsBack.j1 kj3 l0 a1 a2) else (none)) else (none))) else (none))) else ((bits_Check.f l0).bind fun t214 => (if t214 < 0 then (none) else (magnetolaw01_BitsBack.j1 kj3 l0 a1 a2))))) = some r := by rw [if_neg (show ¬ (false = true) by decide)] at H; exact H
        clear H
        have H := H1
        clear H1
        replace H := Option.bind_eq_some_iff.mp H
        obtain ⟨⟨t205, t206, t207⟩, A90, H⟩ := H
        replace H : (if t207 = 0 then ((bits_Parse.f kj3 t205).bind fun bt208 => (if bt208.2.2 = 0 then ((magnetolaw01_ints.f kj3 bt208.1 l0).bind fun t213 => (if t213 = true then (if (t205.size : Int) = (l0.length : Int) then (magnetolaw01_BitsBack.j1 kj3 l0 a1 a2) else (none)) else (none))) else (none))) else ((bits_Check.f l0).bind fun t214 => (if t214 < 0 then (none) else (magnetolaw01_BitsBack.j1 kj3 l0 a1 a2)))) = some r := H
        have A9 := Aside0.mk A90
        clear A90
        have HC10 := Aside0.mk H
        clear H
        go_upto_if 46 with (first | ((with_reducible refine gate_callee (f := 23) rfl ?_); refine goesL_ (some 41) rfl rfl Try.func23 (by kernel_rfl) rfl #[.slice A0 l0.length c0] rfl (by (try simp only [List.map_toArray, List.map_cons, List.map_nil]); first | done | rfl | (simp only [List.length_drop, List.length_take]; rfl)) ?_; (with_reducible refine (bits_Text.calls kj3 _ _ l0 t205 t206 t207 _ ?side1 ?side2 A9.out).mono ?_); (case side1 => repeat (first | exact (Kd.C_below HR0.out HB.out) | (with_reducible refine Kd.C_alloc ?_ _) | (with_reducible refine Kd.C_drewN ?_ _) | (with_reducible refine Kd.C_drew ?_))); (case side2 => exact HC0.out); rintro e w11 ⟨rfl, hb⟩; refine ⟨_, rfl, ?_⟩; have n0_ := Aside0.mk (below_step (by repeat (first | (with_reducible first | exact HB.out | apply below_alloc | apply pw_below_drewN | apply below_drew1) | exact HB.out)) hb); clear HB; have HB := n0_; clear n0_; (try clear hb); (try clear hb2); (try clear hk); (try clear hi)))
        (try simp only [Act.put, List.setIfInBounds_toArray, List.set_cons_zero, List.set_cons_succ])
        go_cut [] (fun wc => ∃ (kq : Nat), Aside0 (magnetolaw01_BitsBack.j1 kq l0 a1 a2 = some r) ∧ Aside0 (kq ≤ kj3) ∧ Aside0 (Below w.heap.size w wc))
        case first =>
          have H := HC10.out
          clear HC10
          by_cases c12 : t207 = 0
          · rw [if_pos c12] at H
            have c12b0 : (t207 == 0) = true := beq_iff_eq.mpr c12
            have c12b1 : (t207 != 0) = false := bne_eq_false_iff_eq.mpr c12
            clear c12
            (first | rw [c12b0] | (simp only [i64_w, i32_w]; rw [c12b0]) | skip)
            replace H := Option.bind_eq_some_iff.mp H
            obtain ⟨⟨t208, t209, t210⟩, A130, H⟩ := H
            replace H : (if t210 = 0 then ((magnetolaw01_ints.f kj3 t208 l0).bind fun t213 => (if t213 = true then (if (t205.size : Int) = (l0.length : Int) then (magnetolaw01_BitsBack.j1 kj3 l0 a1 a2) else (none)) else (none))) else (none)) = some r := H
            have A13 := Aside0.mk A130
            clear A130
            by_cases c14 : t210 = 0
            · rw [if_pos c14] at H
              have c14b0 : (t210 == 0) = true := beq_iff_eq.mpr c14
              have c14b1 : (t210 != 0) = false := bne_eq_false_iff_eq.mpr c14
              clear c14
              replace H := Option.bind_eq_some_iff.mp H
              obtain ⟨t213, A150, H⟩ := H
              replace H : (if t213 = true then (if (t205.size : Int) = (l0.length : Int) then (magnetolaw01_BitsBack.j1 kj3 l0 a1 a2) else (none)) else (none)) = some r := H
              have A15 := Aside0.mk A150
              clear A150
              by_cases c16 : t213 = true
              · subst c16
                have H1 : (if (t205.size : Int) = (l0.length : Int) then (magnetolaw01_BitsBack.j1 kj3 l0 a1 a2) else (none)) = some r := by rw [if_pos rfl] at H; exact H
                clear H
                have H := H1
                clear H1
                by_cases c17 : (t205.size : Int) = (l0.length : Int)
                · rw [if_pos c17] at H
                  have c17b0 : ((t205.size : Int) == (l0.length : Int)) = true := beq_iff_eq.mpr c17
                  have c17b1 : ((t205.size : Int) != (l0.length : Int)) = false := bne_eq_false_iff_eq.mpr c17
                  have c17b2 : (t205.size == l0.length) = true := by first | simpa using c17 | (simp at c17 ⊢; omega)
                  clear c17
                  have H' := Aside0.mk H
                  clear H
                  go_wp2_with (first | ((with_reducible refine gate_callee (f := 26) rfl ?_); refine goesL_ (some 49) rfl rfl Try.func26 (by kernel_rfl) rfl #[.string t205] rfl (by (try simp only [List.map_toArray, List.map_cons, List.map_nil]); first | done | rfl | (simp only [List.length_drop, List.length_take]; rfl)) ?_; (with_reducible refine (bits_Parse.calls kj3 t205 t208 t209 t210 _ A13.out).mono ?_); rintro e w18 ⟨v211, rfl, ho0, hb⟩; refine ⟨_, rfl, ?_⟩; have n0_ := Aside0.mk (Kd.R_lower ho0 (below_size (by repeat (first | (with_reducible first | exact HB.out | apply below_alloc | apply pw_below_drewN | apply below_drew1) | exact HB.out)))); have n1_ := Aside0.mk (below_step (by repeat (first | (with_reducible first | exact HB.out | apply below_alloc | apply pw_below_drewN | apply below_drew1) | exact HB.out)) hb); clear HB; have HO212 := n0_; have HB := n1_; clear n0_ n1_; (try clear hb); (try clear hb2); (try clear hk); (try clear hi); (try clear ho0); obtain ⟨Ao19, co19, eo19⟩ := Kd.R_slice HO212.out; subst eo19) | (go_at_call 28; (with_reducible refine (magnetolaw01_ints.calls kj3 _ _ t208 _ _ l0 true _ ?side1 ?side2 ?side3 ?side4 A15.out).mono ?_); (case side1 => repeat (first | exact (Kd.R_reads' HO212.out).2.2 | (with_reducible refine Kd.C_alloc ?_ _) | (with_reducible refine Kd.C_drewN ?_ _) | (with_reducible refine Kd.C_drew ?_))); (case side2 => exact (Kd.R_reads' HO212.out).2.1); (case side3 => repeat (first | exact (Kd.C_below HR0.out HB.out) | (with_reducible refine Kd.C_alloc ?_ _) | (with_reducible refine Kd.C_drewN ?_ _) | (with_reducible refine Kd.C_drew ?_))); (case side4 => exact HC0.out); rintro e w' ⟨rfl, ⟨nd, rfl⟩⟩))
                  go_meet
                  case rel => exact ⟨_, H', ⟨by have := HJ3.out; first | omega | exact Nat.le_refl _⟩, ⟨by repeat (first | (with_reducible first | exact HB.out | apply below_alloc | apply pw_below_drewN | apply below_drew1) | exact HB.out)⟩⟩
                · rw [if_neg c17] at H
                  exact absurd H (by simp)
              · replace c16 := Bool.eq_false_iff.mpr c16
                subst c16
                have H1 : (none) = some r := by rw [if_neg (show ¬ (false = true) by decide)] at H; exact H
                clear H
                have H := H1
                clear H1
                exact absurd H (by simp)
            · rw [if_neg c14] at H
              exact absurd H (by simp)
          · rw [if_neg c12] at H
            have c12b0 : (t207 == 0) = false := beq_eq_false_iff_ne.mpr c12
            have c12b1 : (t207 != 0) = true := bne_iff_ne.mpr c12
            (first | rw [c12b0] | (simp only [i64_w, i32_w]; rw [c12b0]) | skip)
            replace H := Option.bind_eq_some_iff.mp H
            obtain ⟨t214, A200, H⟩ := H
            replace H : (if t214 < 0 then (none) else (magnetolaw01_BitsBack.j1 kj3 l0 a1 a2)) = some r := H
            have A20 := Aside0.mk A200
            clear A200
            by_cases c21 : t214 < 0
            · rw [if_pos c21] at H
              exact absurd H (by simp)
            · rw [if_neg c21] at H
              have c21b0 : decide (t214 < 0) = false := decide_eq_false c21
              clear c21
              have H' := Aside0.mk H
              clear H
              go_wp2_with (first | ((with_reducible refine gate_callee (f := 24) rfl ?_); refine goesL_ (some 69) rfl rfl Try.func24 (by kernel_rfl) rfl #[.slice A0 l0.length c0] rfl (by (try simp only [List.map_toArray, List.map_cons, List.map_nil]); first | done | rfl | (simp only [List.length_drop, List.length_take]; rfl)) ?_; (with_reducible refine (bits_Check.calls _ _ l0 t214 _ ?side1 ?side2 A20.out).mono ?_); (case side1 => repeat (first | exact (Kd.C_below HR0.out HB.out) | (with_reducible refine Kd.C_alloc ?_ _) | (with_reducible refine Kd.C_drewN ?_ _) | (with_reducible refine Kd.C_drew ?_))); (case side2 => exact HC0.out); rintro e w' ⟨rfl, ⟨nd, rfl⟩⟩; refine ⟨_, rfl, ?_⟩))
              go_meet
              case rel => exact ⟨_, H', ⟨by have := HJ3.out; first | omega | exact Nat.le_refl _⟩, ⟨by repeat (first | (with_reducible first | exact HB.out | apply below_alloc | apply pw_below_drewN | apply below_drew1) | exact HB.out)⟩⟩
        case rest =>
          clear HC10
          try clear c1
          try clear c2
          try clear p2
          try clear c5
          try clear c5b0
          try clear c5b1
          try clear c6
          try clear c12
          try clear c12b0
          try clear c12b1
          try clear c14
          try clear c14b0
          try clear c14b1
          try clear c16
          try clear c17
          try clear c17b0
          try clear c17b1
          try clear c17b2
          try clear c21
          try clear c21b0
          try clear p2
          obtain ⟨kq, HA, HJ9, HB⟩ := hcut
          cases kq with
          | zero => exact absurd HA.out (by simp [magnetolaw01_BitsBack.j1])
          | succ kj9 =>
            have H := HA.out
            clear HA
            simp only [magnetolaw01_BitsBack.j1] at H
            replace H := Option.bind_eq_some_iff.mp H
            obtain ⟨⟨t215, t216, t217⟩, A220, H⟩ := H
            replace H : (if t217 = 0 then ((bits_Text.f kj9 t215).bind fun bt220 => (if bt220.2.2 = 0 then (if bt220.1.toList = a1.toList then (magnetolaw01_BitsBack.j2 kj9 l0 a2) else (none)) else (none))) else (magnetolaw01_BitsBack.j2 kj9 l0 a2)) = some r := H
            have A22 := Aside0.mk A220
            clear A220
            have HC23 := Aside0.mk H
            clear H
            go_upto_if 78 with (first | ((with_reducible refine gate_callee (f := 26) rfl ?_); refine goesL_ (some 73) rfl rfl Try.func26 (by kernel_rfl) rfl #[.string a1] rfl (by (try simp only [List.map_toArray, List.map_cons, List.map_nil]); first | done | rfl | (simp only [List.length_drop, List.length_take]; rfl)) ?_; (with_reducible refine (bits_Parse.calls kj9 a1 t215 t216 t217 _ A22.out).mono ?_); rintro e w24 ⟨v218, rfl, ho0, hb⟩; refine ⟨_, rfl, ?_⟩; have n0_ := Aside0.mk (Kd.R_lower ho0 (below_size (by repeat (first | (with_reducible first | exact HB.out | apply below_alloc | apply pw_below_drewN | apply below_drew1) | exact HB.out)))); have n1_ := Aside0.mk (below_step (by repeat (first | (with_reducible first | exact HB.out | apply below_alloc | apply pw_below_drewN | apply below_drew1) | exact HB.out)) hb); clear HB; have HO219 := n0_; have HB := n1_; clear n0_ n1_; (try clear hb); (try clear hb2); (try clear hk); (try clear hi); (try clear ho0)))
            (try simp only [Act.put, List.setIfInBounds_toArray, List.set_cons_zero, List.set_cons_succ])
            go_cut [] (fun wc => ∃ (kq : Nat), Aside0 (magnetolaw01_BitsBack.j2 kq l0 a2 = some r) ∧ Aside0 (kq ≤ kj9) ∧ Aside0 (Below w.heap.size w wc))
            case first =>
              have H := HC23.out
              clear HC23
              by_cases c25 : t217 = 0
              · rw [if_pos c25] at H
                have c25b0 : (t217 == 0) = true := beq_iff_eq.mpr c25
                have c25b1 : (t217 != 0) = false := bne_eq_false_iff_eq.mpr c25
                clear c25
                (first | rw [c25b0] | (simp only [i64_w, i32_w]; rw [c25b0]) | skip)
                replace H := Option.bind_eq_some_iff.mp H
                obtain ⟨⟨t220, t221, t222⟩, A260, H⟩ := H
                replace H : (if t222 = 0 then (if t220.toList = a1.toList then (magnetolaw01_BitsBack.j2 kj9 l0 a2) else (none)) else (none)) = some r := H
                have A26 := Aside0.mk A260
                clear A260
                by_cases c27 : t222 = 0
                · rw [if_pos c27] at H
                  have c27b0 : (t222 == 0) = true := beq_iff_eq.mpr c27
                  have c27b1 : (t222 != 0) = false := bne_eq_false_iff_eq.mpr c27
                  clear c27
                  by_cases c28 : t220.toList = a1.toList
                  · rw [if_pos c28] at H
                    have c28b0 : (t220.toList == a1.toList) = true := beq_iff_eq.mpr c28
                    have c28b1 : (t220.toList != a1.toList) = false := bne_eq_false_iff_eq.mpr c28
                    clear c28
                    have H' := Aside0.mk H
                    clear H
                    obtain ⟨Ao29, co29, eo29⟩ := Kd.R_slice HO219.out
                    subst eo29
                    go_wp2_with (first | ((with_reducible refine gate_callee (f := 23) rfl ?_); refine goesL_ (some 81) rfl rfl Try.func23 (by kernel_rfl) rfl #[.slice Ao29 t215.length co29] rfl (by (try simp only [List.map_toArray, List.map_cons, List.map_nil]); first | done | rfl | (simp only [List.length_drop, List.length_take]; rfl)) ?_; (with_reducible refine (bits_Text.calls kj9 _ _ t215 t220 t221 t222 _ ?side1 ?side2 A26.out).mono ?_); (case side1 => repeat (first | exact (Kd.R_reads' HO219.out).2.2 | (with_reducible refine Kd.C_alloc ?_ _) | (with_reducible refine Kd.C_drewN ?_ _) | (with_reducible refine Kd.C_drew ?_))); (case side2 => exact (Kd.R_reads' HO219.out).2.1); rintro e w30 ⟨rfl, hb⟩; refine ⟨_, rfl, ?_⟩; have n0_ := Aside0.mk (Kd.R_below (by (with_reducible repeat (first | apply Kd.R_alloc | apply Kd.R_drewN | apply Kd.R_drew)); exact HO219.out) hb); have n1_ := Aside0.mk (below_step (by repeat (first | (with_reducible first | exact HB.out | apply below_alloc | apply pw_below_drewN | apply below_drew1) | exact HB.out)) hb); clear HO219; clear HB; have HO219 := n0_; have HB := n1_; clear n0_ n1_; (try clear hb); (try clear hb2); (try clear hk); (try clear hi)))
                    go_meet
                    case rel => exact ⟨_, H', ⟨by have := HJ3.out; have := HJ9.out; first | omega | exact Nat.le_refl _⟩, ⟨by repeat (first | (with_reducible first | exact HB.out | apply below_alloc | apply pw_below_drewN | apply below_drew1) | exact HB.out)⟩⟩
                  · rw [if_neg c28] at H
                    exact absurd H (by simp)
                · rw [if_neg c27] at H
                  exact absurd H (by simp)
              · rw [if_neg c25] at H
                have c25b0 : (t217 == 0) = false := beq_eq_false_iff_ne.mpr c25
                have c25b1 : (t217 != 0) = true := bne_iff_ne.mpr c25
                (first | rw [c25b0] | (simp only [i64_w, i32_w]; rw [c25b0]) | skip)
                have H' := Aside0.mk H
                clear H
                go_wp2
                go_meet
                case rel => exact ⟨_, H', ⟨by have := HJ3.out; have := HJ9.out; first | omega | exact Nat.le_refl _⟩, ⟨by repeat (first | (with_reducible first | exact HB.out | apply below_alloc | apply pw_below_drewN | apply below_drew1) | exact HB.out)⟩⟩
            case rest =>
              clear HC23
              try clear c1
              try clear c2
              try clear p2
              try clear c5
              try clear c5b0
              try clear c5b1
              try clear c6
              try clear c12
              try clear c12b0
              try clear c12b1
              try clear c14
              try clear c14b0
              try clear c14b1
              try clear c16
              try clear c17
              try clear c17b0
              try clear c17b1
              try clear c17b2
              try clear c21
              try clear c21b0
              try clear c23
              try clear c24
              try clear c25
              try clear c25b0
              try clear c25b1
              try clear c26
              try clear c27
              try clear c27b0
              try clear c27b1
              try clear c28
              try clear c28b0
              try clear c28b1
              try clear p2
              obtain ⟨kq, HA, HJ22, HB⟩ := hcut
              cases kq with
              | zero => exact absurd HA.out (by simp [magnetolaw01_BitsBack.j2])
              | succ kj22 =>
                have H := HA.out
                clear HA
                simp only [magnetolaw01_BitsBack.j2] at H
                have H' := Aside0.mk H
                clear H
                go_wp2
                go_loopg [19] kj22 (fun kq v19 w' => ∃ (x19_4 : Int), v19 = .int .i64 x19_4 ∧ Aside0 (magnetolaw01_BitsBack.l0 kq l0 a2 x19_4 = some r) ∧ Aside0 (kq ≤ kj22) ∧ Aside0 (Below w.heap.size w w'))
                case atStart => exact ⟨(0), (by first | rfl | (simp; done) | (simp [*]; done)), H', ⟨Nat.le_refl _⟩, ⟨by repeat (first | (with_reducible first | exact HB.out | apply below_alloc | apply pw_below_drewN | apply below_drew1) | exact HB.out)⟩⟩
                case round =>
                  clear H'
                  try clear c1
                  try clear c2
                  try clear p2
                  try clear c5
                  try clear c5b0
                  try clear c5b1
                  try clear c6
                  try clear c12
                  try clear c12b0
                  try clear c12b1
                  try clear c14
                  try clear c14b0
                  try clear c14b1
                  try clear c16
                  try clear c17
                  try clear c17b0
                  try clear c17b1
                  try clear c17b2
                  try clear c21
                  try clear c21b0
                  try clear c23
                  try clear c24
                  try clear c25
                  try clear c25b0
                  try clear c25b1
                  try clear c26
                  try clear c27
                  try clear c27b0
                  try clear c27b1
                  try clear c28
                  try clear c28b0
                  try clear c28b1
                  try clear p2
                  obtain ⟨x19_4, rfl, HA, HK4, HB⟩ := hrel
                  cases gk with
                  | zero => exact absurd HA.out (by simp [magnetolaw01_BitsBack.l0])
                  | succ k4 =>
                    have H := HA.out
                    clear HA
                    simp only [magnetolaw01_BitsBack.l0] at H
                    by_cases c31 : x19_4 ≤ 64
                    · rw [if_pos c31] at H
                      have c31b0 : decide (x19_4 ≤ 64) = true := decide_eq_true c31
                      have c31b0p : (x19_4 ≤ 64) = True := eq_true c31
                      clear c31
                      replace H := Option.bind_eq_some_iff.mp H
                      obtain ⟨⟨t223, t224⟩, A320, H⟩ := H
                      replace H : ((bits_Value.f k4 t223).bind fun bt227 => (if t224 = 0 then (if bt227.2 = 0 then (if (t223.length : Int) = x19_4 then (if x19_4 < 64 then (if 0 ≤ x19_4 then (if (shl .u64 1 x19_4) = 0 then (none) else (if bt227.1 = (Int.tmod a2 (shl .u64 1 x19_4)) then (if x19_4 = 64 then (if bt227.1 = a2 then (magnetolaw01_BitsBack.l0 k4 l0 a2 (wrap64 (x19_4 + 1))) else (none)) else (magnetolaw01_BitsBack.l0 k4 l0 a2 (wrap64 (x19_4 + 1)))) else (none))) else (none)) else (if x19_4 = 64 then (if bt227.1 = a2 then (magnetolaw01_BitsBack.l0 k4 l0 a2 (wrap64 (x19_4 + 1))) else (none)) else (magnetolaw01_BitsBack.l0 k4 l0 a2 (wrap64 (x19_4 + 1))))) else (none)) else (none)) else (none))) = some r := H
                      have A32 := Aside0.mk A320
                      clear A320
                      replace H := Option.bind_eq_some_iff.mp H
                      obtain ⟨⟨t227, t228⟩, A330, H⟩ := H
                      replace H : (if t224 = 0 then (if t228 = 0 then (if (t223.length : Int) = x19_4 then (if x19_4 < 64 then (if 0 ≤ x19_4 then (if (shl .u64 1 x19_4) = 0 then (none) else (if t227 = (Int.tmod a2 (shl .u64 1 x19_4)) then (if x19_4 = 64 then (if t227 = a2 then (magnetolaw01_BitsBack.l0 k4 l0 a2 (wrap64 (x19_4 + 1))) else (none)) else (magnetolaw01_BitsBack.l0 k4 l0 a2 (wrap64 (x19_4 + 1)))) else (none))) else (none)) else (if x19_4 = 64 then (if t227 = a2 then (magnetolaw01_BitsBack.l0 k4 l0 a2 (wrap64 (x19_4 + 1))) else (none)) else (magnetolaw01_BitsBack.l0 k4 l0 a2 (wrap64 (x19_4 + 1))))) else (none)) else (none)) else (none)) = some r := H
                      have A33 := Aside0.mk A330
                      clear A330
                      by_cases c34 : t224 = 0
                      · rw [if_pos c34] at H
                        have c34b0 : (t224 == 0) = true := beq_iff_eq.mpr c34
                        have c34b1 : (t224 != 0) = false := bne_eq_false_iff_eq.mpr c34
                        clear c34
                        by_cases c35 : t228 = 0
                        · rw [if_pos c35] at H
                          have c35b0 : (t228 == 0) = true := beq_iff_eq.mpr c35
                          have c35b1 : (t228 != 0) = false := bne_eq_false_iff_eq.mpr c35
                          clear c35
                          by_cases c36 : (t223.length : Int) = x19_4
                          · rw [if_pos c36] at H
                            have c36b0 : ((t223.length : Int) == x19_4) = true := beq_iff_eq.mpr c36
                            have c36b1 : ((t223.length : Int) != x19_4) = false := bne_eq_false_iff_eq.mpr c36
                            clear c36
                            by_cases c37 : x19_4 < 64
                            · rw [if_pos c37] at H
                              have c37b0 : decide (x19_4 < 64) = true := decide_eq_true c37
                              clear c37
                              by_cases c38 : 0 ≤ x19_4
                              · rw [if_pos c38] at H
                                have c38b0 := eq_true c38
                                have c38b1 : decide (0 ≤ x19_4) = true := decide_eq_true c38
                                clear c38
                                obtain ⟨ji39, hji39⟩ : ∃ j_ : Int, (shl .u64 1 x19_4) = j_ := ⟨_, rfl⟩
                                replace H : (if (ji39) = 0 then (none) else (if t227 = (Int.tmod a2 (ji39)) then (if x19_4 = 64 then (if t227 = a2 then (magnetolaw01_BitsBack.l0 k4 l0 a2 (wrap64 (x19_4 + 1))) else (none)) else (magnetolaw01_BitsBack.l0 k4 l0 a2 (wrap64 (x19_4 + 1)))) else (none))) = some r := by first | (rw [hji39] at H; exact H) | (simp only [hji39] at H ⊢; exact H)
                                (try rw [hji39] at A32)
                                (try rw [hji39] at A33)
                                have hji39_ : (IntKind.u64.wrap (1 * 2 ^ min x19_4.toNat 64)) = ji39 := hji39
                                have hji39z : x19_4 ≤ 64 → (IntKind.u64.wrap (1 * 2 ^ x19_4.toNat)) = ji39 := shl_small hji39
                                have hji39u : (IntKind.u64.wrap (2 ^ min x19_4.toNat 64)) = ji39 := by have h_ := hji39_; rw [Int.one_mul] at h_; exact h_
                                have hji39v : x19_4 ≤ 64 → (IntKind.u64.wrap (2 ^ x19_4.toNat)) = ji39 := fun hle_ => by have h_ := hji39z hle_; rw [Int.one_mul] at h_; exact h_
                                by_cases c40 : (ji39) = 0
                                · rw [if_pos c40] at H
                                  exact absurd H (by simp)
                                · rw [if_neg c40] at H
                                  have c40b0 : ((ji39) == 0) = false := beq_eq_false_iff_ne.mpr c40
                                  have c40b1 : ((ji39) != 0) = true := bne_iff_ne.mpr c40
                                  by_cases c41 : t227 = (Int.tmod a2 (ji39))
                                  · rw [if_pos c41] at H
                                    have c41b0 : (t227 == (Int.tmod a2 (ji39))) = true := beq_iff_eq.mpr c41
                                    have c41b1 : (t227 != (Int.tmod a2 (ji39))) = false := bne_eq_false_iff_eq.mpr c41
                                    clear c41
                                    by_cases c42 : x19_4 = 64
                                    · rw [if_pos c42] at H
                                      have c42b0 : (x19_4 == 64) = true := beq_iff_eq.mpr c42
                                      have c42b1 : (x19_4 != 64) = false := bne_eq_false_iff_eq.mpr c42
                                      clear c42
                                      by_cases c43 : t227 = a2
                                      · rw [if_pos c43] at H
                                        have c43b0 : (t227 == a2) = true := beq_iff_eq.mpr c43
                                        have c43b1 : (t227 != a2) = false := bne_eq_false_iff_eq.mpr c43
                                        clear c43
                                        have H' := Aside0.mk H
                                        clear H
                                        go_wp2_with (first | ((with_reducible refine gate_callee (f := 27) rfl ?_); refine goesL_ (some 99) rfl rfl Try.func27 (by kernel_rfl) rfl #[.int .u64 a2, .int .i64 x19_4] rfl (by (try simp only [List.map_toArray, List.map_cons, List.map_nil]); first | done | rfl | (simp only [List.length_drop, List.length_take]; rfl)) ?_; (with_reducible refine (bits_Of.calls k4 a2 x19_4 t223 t224 _ A32.out).mono ?_); rintro e w44 ⟨v225, rfl, ho0, hb⟩; refine ⟨_, rfl, ?_⟩; have n0_ := Aside0.mk (Kd.R_lower ho0 (below_size (by repeat (first | (with_reducible first | exact HB.out | apply below_alloc | apply pw_below_drewN | apply below_drew1) | exact HB.out)))); have n1_ := Aside0.mk (below_step (by repeat (first | (with_reducible first | exact HB.out | apply below_alloc | apply pw_below_drewN | apply below_drew1) | exact HB.out)) hb); clear HB; have HO226 := n0_; have HB := n1_; clear n0_ n1_; (try clear hb); (try clear hb2); (try clear hk); (try clear hi); (try clear ho0); obtain ⟨Ao45, co45, eo45⟩ := Kd.R_slice HO226.out; subst eo45) | ((with_reducible refine gate_callee (f := 30) rfl ?_); refine goesL_ (some 104) rfl rfl Try.func30 (by kernel_rfl) rfl #[.slice Ao45 t223.length co45] rfl (by (try simp only [List.map_toArray, List.map_cons, List.map_nil]); first | done | rfl | (simp only [List.length_drop, List.length_take]; rfl)) ?_; (with_reducible refine (bits_Value.calls k4 _ _ t223 t227 t228 _ ?side1 ?side2 A33.out).mono ?_); (case side1 => repeat (first | exact (Kd.R_reads' HO226.out).2.2 | (with_reducible refine Kd.C_alloc ?_ _) | (with_reducible refine Kd.C_drewN ?_ _) | (with_reducible refine Kd.C_drew ?_))); (case side2 => exact (Kd.R_reads' HO226.out).2.1); rintro e w' ⟨rfl, ⟨nd, rfl⟩⟩; refine ⟨_, rfl, ?_⟩))
                                        go_roundg k4
                                        case measure => have := HJ3.out; have := HJ9.out; have := HJ22.out; have := HK4.out; omega
                                        case rel => exact ⟨(wrap64 (x19_4 + 1)), (by first | rfl | (simp; done) | (simp [*]; done)), H', ⟨by have := HJ3.out; have := HJ9.out; have := HJ22.out; have := HK4.out; omega⟩, ⟨by repeat (first | (with_reducible first | exact HB.out | apply below_alloc | apply pw_below_drewN | apply below_drew1) | exact HB.out)⟩⟩
                                      · rw [if_neg c43] at H
                                        exact absurd H (by simp)
                                    · rw [if_neg c42] at H
                                      have c42b0 : (x19_4 == 64) = false := beq_eq_false_iff_ne.mpr c42
                                      have c42b1 : (x19_4 != 64) = true := bne_iff_ne.mpr c42
                                      have H' := Aside0.mk H
                                      clear H
                                      go_wp2_with (first | ((with_reducible refine gate_callee (f := 27) rfl ?_); refine goesL_ (some 99) rfl rfl Try.func27 (by kernel_rfl) rfl #[.int .u64 a2, .int .i64 x19_4] rfl (by (try simp only [List.map_toArray, List.map_cons, List.map_nil]); first | done | rfl | (simp only [List.length_drop, List.length_take]; rfl)) ?_; (with_reducible refine (bits_Of.calls k4 a2 x19_4 t223 t224 _ A32.out).mono ?_); rintro e w46 ⟨v225, rfl, ho0, hb⟩; refine ⟨_, rfl, ?_⟩; have n0_ := Aside0.mk (Kd.R_lower ho0 (below_size (by repeat (first | (with_reducible first | exact HB.out | apply below_alloc | apply pw_below_drewN | apply below_drew1) | exact HB.out)))); have n1_ := Aside0.mk (below_step (by repeat (first | (with_reducible first | exact HB.out | apply below_alloc | apply pw_below_drewN | apply below_drew1) | exact HB.out)) hb); clear HB; have HO226 := n0_; have HB := n1_; clear n0_ n1_; (try clear hb); (try clear hb2); (try clear hk); (try clear hi); (try clear ho0); obtain ⟨Ao47, co47, eo47⟩ := Kd.R_slice HO226.out; subst eo47) | ((with_reducible refine gate_callee (f := 30) rfl ?_); refine goesL_ (some 104) rfl rfl Try.func30 (by kernel_rfl) rfl #[.slice Ao47 t223.length co47] rfl (by (try simp only [List.map_toArray, List.map_cons, List.map_nil]); first | done | rfl | (simp only [List.length_drop, List.length_take]; rfl)) ?_; (with_reducible refine (bits_Value.calls k4 _ _ t223 t227 t228 _ ?side1 ?side2 A33.out).mono ?_); (case side1 => repeat (first | exact (Kd.R_reads' HO226.out).2.2 | (with_reducible refine Kd.C_alloc ?_ _) | (with_reducible refine Kd.C_drewN ?_ _) | (with_reducible refine Kd.C_drew ?_))); (case side2 => exact (Kd.R_reads' HO226.out).2.1); rintro e w' ⟨rfl, ⟨nd, rfl⟩⟩; refine ⟨_, rfl, ?_⟩))
                                      go_roundg k4
                                      case measure => have := HJ3.out; have := HJ9.out; have := HJ22.out; have := HK4.out; omega
                                      case rel => exact ⟨(wrap64 (x19_4 + 1)), (by first | rfl | (simp; done) | (simp [*]; done)), H', ⟨by have := HJ3.out; have := HJ9.out; have := HJ22.out; have := HK4.out; omega⟩, ⟨by repeat (first | (with_reducible first | exact HB.out | apply below_alloc | apply pw_below_drewN | apply below_drew1) | exact HB.out)⟩⟩
                                  · rw [if_neg c41] at H
                                    exact absurd H (by simp)
                              · rw [if_neg c38] at H
                                exact absurd H (by simp)
                            · rw [if_neg c37] at H
                              have c37b0 : decide (x19_4 < 64) = false := decide_eq_false c37
                              clear c37
                              by_cases c48 : x19_4 = 64
                              · rw [if_pos c48] at H
                                have c48b0 : (x19_4 == 64) = true := beq_iff_eq.mpr c48
                                have c48b1 : (x19_4 != 64) = false := bne_eq_false_iff_eq.mpr c48
                                clear c48
                                by_cases c49 : t227 = a2
                                · rw [if_pos c49] at H
                                  have c49b0 : (t227 == a2) = true := beq_iff_eq.mpr c49
                                  have c49b1 : (t227 != a2) = false := bne_eq_false_iff_eq.mpr c49
                                  clear c49
                                  have H' := Aside0.mk H
                                  clear H
                                  go_wp2_with (first | ((with_reducible refine gate_callee (f := 27) rfl ?_); refine goesL_ (some 99) rfl rfl Try.func27 (by kernel_rfl) rfl #[.int .u64 a2, .int .i64 x19_4] rfl (by (try simp only [List.map_toArray, List.map_cons, List.map_nil]); first | done | rfl | (simp only [List.length_drop, List.length_take]; rfl)) ?_; (with_reducible refine (bits_Of.calls k4 a2 x19_4 t223 t224 _ A32.out).mono ?_); rintro e w50 ⟨v225, rfl, ho0, hb⟩; refine ⟨_, rfl, ?_⟩; have n0_ := Aside0.mk (Kd.R_lower ho0 (below_size (by repeat (first | (with_reducible first | exact HB.out | apply below_alloc | apply pw_below_drewN | apply below_drew1) | exact HB.out)))); have n1_ := Aside0.mk (below_step (by repeat (first | (with_reducible first | exact HB.out | apply below_alloc | apply pw_below_drewN | apply below_drew1) | exact HB.out)) hb); clear HB; have HO226 := n0_; have HB := n1_; clear n0_ n1_; (try clear hb); (try clear hb2); (try clear hk); (try clear hi); (try clear ho0); obtain ⟨Ao51, co51, eo51⟩ := Kd.R_slice HO226.out; subst eo51) | ((with_reducible refine gate_callee (f := 30) rfl ?_); refine goesL_ (some 104) rfl rfl Try.func30 (by kernel_rfl) rfl #[.slice Ao51 t223.length co51] rfl (by (try simp only [List.map_toArray, List.map_cons, List.map_nil]); first | done | rfl | (simp only [List.length_drop, List.length_take]; rfl)) ?_; (with_reducible refine (bits_Value.calls k4 _ _ t223 t227 t228 _ ?side1 ?side2 A33.out).mono ?_); (case side1 => repeat (first | exact (Kd.R_reads' HO226.out).2.2 | (with_reducible refine Kd.C_alloc ?_ _) | (with_reducible refine Kd.C_drewN ?_ _) | (with_reducible refine Kd.C_drew ?_))); (case side2 => exact (Kd.R_reads' HO226.out).2.1); rintro e w' ⟨rfl, ⟨nd, rfl⟩⟩; refine ⟨_, rfl, ?_⟩))
                                  go_roundg k4
                                  case measure => have := HJ3.out; have := HJ9.out; have := HJ22.out; have := HK4.out; omega
                                  case rel => exact ⟨(wrap64 (x19_4 + 1)), (by first | rfl | (simp; done) | (simp [*]; done)), H', ⟨by have := HJ3.out; have := HJ9.out; have := HJ22.out; have := HK4.out; omega⟩, ⟨by repeat (first | (with_reducible first | exact HB.out | apply below_alloc | apply pw_below_drewN | apply below_drew1) | exact HB.out)⟩⟩
                                · rw [if_neg c49] at H
                                  exact absurd H (by simp)
                              · rw [if_neg c48] at H
                                have c48b0 : (x19_4 == 64) = false := beq_eq_false_iff_ne.mpr c48
                                have c48b1 : (x19_4 != 64) = true := bne_iff_ne.mpr c48
                                have H' := Aside0.mk H
                                clear H
                                go_wp2_with (first | ((with_reducible refine gate_callee (f := 27) rfl ?_); refine goesL_ (some 99) rfl rfl Try.func27 (by kernel_rfl) rfl #[.int .u64 a2, .int .i64 x19_4] rfl (by (try simp only [List.map_toArray, List.map_cons, List.map_nil]); first | done | rfl | (simp only [List.length_drop, List.length_take]; rfl)) ?_; (with_reducible refine (bits_Of.calls k4 a2 x19_4 t223 t224 _ A32.out).mono ?_); rintro e w52 ⟨v225, rfl, ho0, hb⟩; refine ⟨_, rfl, ?_⟩; have n0_ := Aside0.mk (Kd.R_lower ho0 (below_size (by repeat (first | (with_reducible first | exact HB.out | apply below_alloc | apply pw_below_drewN | apply below_drew1) | exact HB.out)))); have n1_ := Aside0.mk (below_step (by repeat (first | (with_reducible first | exact HB.out | apply below_alloc | apply pw_below_drewN | apply below_drew1) | exact HB.out)) hb); clear HB; have HO226 := n0_; have HB := n1_; clear n0_ n1_; (try clear hb); (try clear hb2); (try clear hk); (try clear hi); (try clear ho0); obtain ⟨Ao53, co53, eo53⟩ := Kd.R_slice HO226.out; subst eo53) | ((with_reducible refine gate_callee (f := 30) rfl ?_); refine goesL_ (some 104) rfl rfl Try.func30 (by kernel_rfl) rfl #[.slice Ao53 t223.length co53] rfl (by (try simp only [List.map_toArray, List.map_cons, List.map_nil]); first | done | rfl | (simp only [List.length_drop, List.length_take]; rfl)) ?_; (with_reducible refine (bits_Value.calls k4 _ _ t223 t227 t228 _ ?side1 ?side2 A33.out).mono ?_); (case side1 => repeat (first | exact (Kd.R_reads' HO226.out).2.2 | (with_reducible refine Kd.C_alloc ?_ _) | (with_reducible refine Kd.C_drewN ?_ _) | (with_reducible refine Kd.C_drew ?_))); (case side2 => exact (Kd.R_reads' HO226.out).2.1); rintro e w' ⟨rfl, ⟨nd, rfl⟩⟩; refine ⟨_, rfl, ?_⟩))
                                go_roundg k4
                                case measure => have := HJ3.out; have := HJ9.out; have := HJ22.out; have := HK4.out; omega
                                case rel => exact ⟨(wrap64 (x19_4 + 1)), (by first | rfl | (simp; done) | (simp [*]; done)), H', ⟨by have := HJ3.out; have := HJ9.out; have := HJ22.out; have := HK4.out; omega⟩, ⟨by repeat (first | (with_reducible first | exact HB.out | apply below_alloc | apply pw_below_drewN | apply below_drew1) | exact HB.out)⟩⟩
                          · rw [if_neg c36] at H
                            exact absurd H (by simp)
                        · rw [if_neg c35] at H
                          exact absurd H (by simp)
                      · rw [if_neg c34] at H
                        exact absurd H (by simp)
                    · rw [if_neg c31] at H
                      have c31b0 : decide (x19_4 ≤ 64) = false := decide_eq_false c31
                      clear c31
                      replace H := Option.bind_eq_some_iff.mp H
                      obtain ⟨⟨t229, t230⟩, A540, H⟩ := H
                      replace H : (if t230 = 0 then ((bits_Of.f k4 t229 (l0.length : Int)).bind fun bt234 => (if bt234.2 = 0 then ((magnetolaw01_ints.f k4 bt234.1 l0).bind fun t238 => (if t238 = true then (magnetolaw01_BitsBack.j4 k4 l0 t229 bt234.1 bt234.2 ((l0.length : Int) == 64)) else (magnetolaw01_BitsBack.j4 k4 l0 t229 bt234.1 bt234.2 true))) else (magnetolaw01_BitsBack.j4 k4 l0 t229 bt234.1 bt234.2 true))) else (if (l0.length : Int) > 64 then ((magnetolaw01_awake.f k4).bind fun t231 => (some t231)) else ((bits_Check.f l0).bind fun t232 => (if t232 ≥ 0 then ((magnetolaw01_awake.f k4).bind fun t233 => (some t233)) else (none))))) = some r := H
                      have A54 := Aside0.mk A540
                      clear A540
                      by_cases c55 : t230 = 0
                      · rw [if_pos c55] at H
                        have c55b0 : (t230 == 0) = true := beq_iff_eq.mpr c55
                        have c55b1 : (t230 != 0) = false := bne_eq_false_iff_eq.mpr c55
                        clear c55
                        replace H := Option.bind_eq_some_iff.mp H
                        obtain ⟨⟨t234, t235⟩, A560, H⟩ := H
                        replace H : (if t235 = 0 then ((magnetolaw01_ints.f k4 t234 l0).bind fun t238 => (if t238 = true then (magnetolaw01_BitsBack.j4 k4 l0 t229 t234 t235 ((l0.length : Int) == 64)) else (magnetolaw01_BitsBack.j4 k4 l0 t229 t234 t235 true))) else (magnetolaw01_BitsBack.j4 k4 l0 t229 t234 t235 true)) = some r := H
                        have A56 := Aside0.mk A560
                        clear A560
                        have HC57 := Aside0.mk H
                        clear H
                        go_upto_region 26 with (first | ((with_reducible refine gate_callee (f := 30) rfl ?_); refine goesL_ (some 142) rfl rfl Try.func30 (by kernel_rfl) rfl #[.slice A0 l0.length c0] rfl (by (try simp only [List.map_toArray, List.map_cons, List.map_nil]); first | done | rfl | (simp only [List.length_drop, List.length_take]; rfl)) ?_; (with_reducible refine (bits_Value.calls k4 _ _ l0 t229 t230 _ ?side1 ?side2 A54.out).mono ?_); (case side1 => repeat (first | exact (Kd.C_below HR0.out HB.out) | (with_reducible refine Kd.C_alloc ?_ _) | (with_reducible refine Kd.C_drewN ?_ _) | (with_reducible refine Kd.C_drew ?_))); (case side2 => exact HC0.out); rintro e w' ⟨rfl, ⟨nd, rfl⟩⟩; refine ⟨_, rfl, ?_⟩) | ((with_reducible refine gate_callee (f := 27) rfl ?_); refine goesL_ (some 162) rfl rfl Try.func27 (by kernel_rfl) rfl #[.int .u64 t229, .int .i64 (l0.length : Int)] rfl (by (try simp only [List.map_toArray, List.map_cons, List.map_nil]); first | done | rfl | (simp only [List.length_drop, List.length_take]; rfl)) ?_; (with_reducible refine (bits_Of.calls k4 t229 (l0.length : Int) t234 t235 _ A56.out).mono ?_); rintro e w58 ⟨v236, rfl, ho0, hb⟩; refine ⟨_, rfl, ?_⟩; have n0_ := Aside0.mk (Kd.R_lower ho0 (below_size (by repeat (first | (with_reducible first | exact HB.out | apply below_alloc | apply pw_below_drewN | apply below_drew1) | exact HB.out)))); have n1_ := Aside0.mk (below_step (by repeat (first | (with_reducible first | exact HB.out | apply below_alloc | apply pw_below_drewN | apply below_drew1) | exact HB.out)) hb); clear HB; have HO237 := n0_; have HB := n1_; clear n0_ n1_; (try clear hb); (try clear hb2); (try clear hk); (try clear hi); (try clear ho0)))
                        (try simp only [Act.put, List.setIfInBounds_toArray, List.set_cons_zero, List.set_cons_succ])
                        go_cut [177] (fun v177 wc => ∃ (kq : Nat) (x177_56 : Bool), v177 = .bool x177_56 ∧ Aside0 (magnetolaw01_BitsBack.j4 kq l0 t229 t234 t235 x177_56 = some r) ∧ Aside0 (kq ≤ k4) ∧ Aside0 (Kd.R (Kd.int .i64) 3 wc w.heap.size (fun _ => True) v236 t234) ∧ Aside0 (Below w.heap.size w wc))
                        case first =>
                          have H := HC57.out
                          clear HC57
                          by_cases c59 : t235 = 0
                          · rw [if_pos c59] at H
                            have c59b0 : (t235 == 0) = true := beq_iff_eq.mpr c59
                            have c59b1 : (t235 != 0) = false := bne_eq_false_iff_eq.mpr c59
                            clear c59
                            (first | rw [c59b0] | (simp only [i64_w, i32_w]; rw [c59b0]) | skip)
                            replace H := Option.bind_eq_some_iff.mp H
                            obtain ⟨t238, A600, H⟩ := H
                            replace H : (if t238 = true then (magnetolaw01_BitsBack.j4 k4 l0 t229 t234 t235 ((l0.length : Int) == 64)) else (magnetolaw01_BitsBack.j4 k4 l0 t229 t234 t235 true)) = some r := H
                            have A60 := Aside0.mk A600
                            clear A600
                            by_cases c61 : t238 = true
                            · subst c61
                              have H1 : (magnetolaw01_BitsBack.j4 k4 l0 t229 t234 t235 ((l0.length : Int) == 64)) = some r := by rw [if_pos rfl] at H; exact H
                              clear H
                              have H := H1
                              clear H1
                              have H' := Aside0.mk H
                              clear H
                              obtain ⟨Ao62, co62, eo62⟩ := Kd.R_slice HO237.out
                              subst eo62
                              go_wp2_with (first | (go_at_call 28; (with_reducible refine (magnetolaw01_ints.calls k4 _ _ t234 _ _ l0 true _ ?side1 ?side2 ?side3 ?side4 A60.out).mono ?_); (case side1 => repeat (first | exact (Kd.R_reads' HO237.out).2.2 | (with_reducible refine Kd.C_alloc ?_ _) | (with_reducible refine Kd.C_drewN ?_ _) | (with_reducible refine Kd.C_drew ?_))); (case side2 => exact (Kd.R_reads' HO237.out).2.1); (case side3 => repeat (first | exact (Kd.C_below HR0.out HB.out) | (with_reducible refine Kd.C_alloc ?_ _) | (with_reducible refine Kd.C_drewN ?_ _) | (with_reducible refine Kd.C_drew ?_))); (case side4 => exact HC0.out); rintro e w' ⟨rfl, ⟨nd, rfl⟩⟩))
                              go_meet
                              case rel => exact ⟨_, (((l0.length : Int) == 64)), (by first | rfl | (simp; done) | (simp [*]; done)), H', ⟨by have := HJ3.out; have := HJ9.out; have := HJ22.out; have := HK4.out; first | omega | exact Nat.le_refl _⟩, ⟨by (with_reducible repeat (first | apply Kd.R_alloc | apply Kd.R_drewN | apply Kd.R_drew)); exact HO237.out⟩, ⟨by repeat (first | (with_reducible first | exact HB.out | apply below_alloc | apply pw_below_drewN | apply below_drew1) | exact HB.out)⟩⟩
                            · replace c61 := Bool.eq_false_iff.mpr c61
                              subst c61
                              have H1 : (magnetolaw01_BitsBack.j4 k4 l0 t229 t234 t235 true) = some r := by rw [if_neg (show ¬ (false = true) by decide)] at H; exact H
                              clear H
                              have H := H1
                              clear H1
                              have H' := Aside0.mk H
                              clear H
                              obtain ⟨Ao63, co63, eo63⟩ := Kd.R_slice HO237.out
                              subst eo63
                              go_wp2_with (first | (go_at_call 28; (with_reducible refine (magnetolaw01_ints.calls k4 _ _ t234 _ _ l0 false _ ?side1 ?side2 ?side3 ?side4 A60.out).mono ?_); (case side1 => repeat (first | exact (Kd.R_reads' HO237.out).2.2 | (with_reducible refine Kd.C_alloc ?_ _) | (with_reducible refine Kd.C_drewN ?_ _) | (with_reducible refine Kd.C_drew ?_))); (case side2 => exact (Kd.R_reads' HO237.out).2.1); (case side3 => repeat (first | exact (Kd.C_below HR0.out HB.out) | (with_reducible refine Kd.C_alloc ?_ _) | (with_reducible refine Kd.C_drewN ?_ _) | (with_reducible refine Kd.C_drew ?_))); (case side4 => exact HC0.out); rintro e w' ⟨rfl, ⟨nd, rfl⟩⟩))
                              go_meet
                              case rel => exact ⟨_, (true), (by first | rfl | (simp; done) | (simp [*]; done)), H', ⟨by have := HJ3.out; have := HJ9.out; have := HJ22.out; have := HK4.out; first | omega | exact Nat.le_refl _⟩, ⟨by (with_reducible repeat (first | apply Kd.R_alloc | apply Kd.R_drewN | apply Kd.R_drew)); exact HO237.out⟩, ⟨by repeat (first | (with_reducible first | exact HB.out | apply below_alloc | apply pw_below_drewN | apply below_drew1) | exact HB.out)⟩⟩
                          · rw [if_neg c59] at H
                            have c59b0 : (t235 == 0) = false := beq_eq_false_iff_ne.mpr c59
                            have c59b1 : (t235 != 0) = true := bne_iff_ne.mpr c59
                            (first | rw [c59b0] | (simp only [i64_w, i32_w]; rw [c59b0]) | skip)
                            have H' := Aside0.mk H
                            clear H
                            go_wp2
                            go_meet
                            case rel => exact ⟨_, (true), (by first | rfl | (simp; done) | (simp [*]; done)), H', ⟨by have := HJ3.out; have := HJ9.out; have := HJ22.out; have := HK4.out; first | omega | exact Nat.le_refl _⟩, ⟨by (with_reducible repeat (first | apply Kd.R_alloc | apply Kd.R_drewN | apply Kd.R_drew)); exact HO237.out⟩, ⟨by repeat (first | (with_reducible first | exact HB.out | apply below_alloc | apply pw_below_drewN | apply below_drew1) | exact HB.out)⟩⟩
                        case rest =>
                          clear HC57
                          try clear c1
                          try clear c2
                          try clear p2
                          try clear c3
                          try clear c4
                          try clear c5
                          try clear c5b0
                          try clear c5b1
                          try clear c6
                          try clear p6
                          try clear c12
                          try clear c12b0
                          try clear c12b1
                          try clear c14
                          try clear c14b0
                          try clear c14b1
                          try clear c16
                          try clear c17
                          try clear c17b0
                          try clear c17b1
                          try clear c17b2
                          try clear c21
                          try clear c21b0
                          try clear c23
                          try clear c24
                          try clear c25
                          try clear c25b0
                          try clear c25b1
                          try clear c26
                          try clear c27
                          try clear c27b0
                          try clear c27b1
                          try clear c28
                          try clear c28b0
                          try clear c28b1
                          try clear c30
                          try clear c31
                          try clear c31b0
                          try clear c34
                          try clear c34b0
                          try clear c34b1
                          try clear c35
                          try clear c35b0
                          try clear c35b1
                          try clear c36
                          try clear c36b0
                          try clear c36b1
                          try clear c37
                          try clear c37b0
                          try clear c38
                          try clear c38b0
                          try clear c38b1
                          try clear c40
                          try clear c40b0
                          try clear c40b1
                          try clear c41
                          try clear c41b0
                          try clear c41b1
                          try clear c42
                          try clear c42b0
                          try clear c42b1
                          try clear c43
                          try clear c43b0
                          try clear c43b1
                          try clear c48
                          try clear c48b0
                          try clear c48b1
                          try clear c49
                          try clear c49b0
                          try clear c49b1
                          try clear c55
                          try clear c55b0
                          try clear c55b1
                          try clear c59
                          try clear c59b0
                          try clear c59b1
                          try clear c61
                          try clear p2
                          obtain ⟨kq, x177_56, rfl, HA, HJ56, HO_26, HB⟩ := hcut
                          cases kq with
                          | zero => exact absurd HA.out (by simp [magnetolaw01_BitsBack.j4])
                          | succ kj56 =>
                            have H := HA.out
                            clear HA
                            simp only [magnetolaw01_BitsBack.j4] at H
                            by_cases c64 : x177_56 = true
                            · subst c64
                              have H1 : (if t235 = 0 then ((magnetolaw01_ints.f kj56 t234 l0).bind fun t239 => (if t239 = true then ((magnetolaw01_awake.f kj56).bind fun t240 => (some t240)) else (none))) else (none)) = some r := by rw [if_pos rfl] at H; exact H
                              clear H
                              have H := H1
                              clear H1
                              by_cases c65 : t235 = 0
                              · rw [if_pos c65] at H
                                have c65b0 : (t235 == 0) = true := beq_iff_eq.mpr c65
                                have c65b1 : (t235 != 0) = false := bne_eq_false_iff_eq.mpr c65
                                clear c65
                                replace H := Option.bind_eq_some_iff.mp H
                                obtain ⟨t239, A660, H⟩ := H
                                replace H : (if t239 = true then ((magnetolaw01_awake.f kj56).bind fun t240 => (some t240)) else (none)) = some r := H
                                have A66 := Aside0.mk A660
                                clear A660
                                by_cases c67 : t239 = true
                                · subst c67
                                  have H1 : ((magnetolaw01_awake.f kj56).bind fun t240 => (some t240)) = some r := by rw [if_pos rfl] at H; exact H
                                  clear H
                                  have H := H1
                                  clear H1
                                  replace H := Option.bind_eq_some_iff.mp H
                                  obtain ⟨t240, A680, H⟩ := H
                                  replace H : (some t240) = some r := H
                                  have A68 := Aside0.mk A680
                                  clear A680
                                  obtain rfl := Option.some.inj H
                                  obtain ⟨Ao69, co69, eo69⟩ := Kd.R_slice HO_26.out
                                  subst eo69
                                  go_wp2_with (first | (go_at_call 28; (with_reducible refine (magnetolaw01_ints.calls kj56 _ _ t234 _ _ l0 true _ ?side1 ?side2 ?side3 ?side4 A66.out).mono ?_); (case side1 => repeat (first | exact (Kd.R_reads' HO_26.out).2.2 | (with_reducible refine Kd.C_alloc ?_ _) | (with_reducible refine Kd.C_drewN ?_ _) | (with_reducible refine Kd.C_drew ?_))); (case side2 => exact (Kd.R_reads' HO_26.out).2.1); (case side3 => repeat (first | exact (Kd.C_below HR0.out HB.out) | (with_reducible refine Kd.C_alloc ?_ _) | (with_reducible refine Kd.C_drewN ?_ _) | (with_reducible refine Kd.C_drew ?_))); (case side4 => exact HC0.out); rintro e w' ⟨rfl, ⟨nd, rfl⟩⟩) | (go_at_call 21; (with_reducible refine (magnetolaw01_awake.calls kj56  t240 _ A68.out).mono ?_); rintro e w70 ⟨rfl, hb⟩; have n0_ := Aside0.mk (Kd.R_below (by (with_reducible repeat (first | apply Kd.R_alloc | apply Kd.R_drewN | apply Kd.R_drew)); exact HO_26.out) hb); have n1_ := Aside0.mk (below_step (by repeat (first | (with_reducible first | exact HB.out | apply below_alloc | apply pw_below_drewN | apply below_drew1) | exact HB.out)) hb); clear HO_26; clear HB; have HO_26 := n0_; have HB := n1_; clear n0_ n1_; (try clear hb); (try clear hb2); (try clear hk); (try clear hi)))
                                  go_ret
                                  exact ⟨by first | rfl | (simp [errW_none, errW_some] <;> rfl) | (simp [*, errW_none, errW_some] <;> rfl), by repeat (first | (with_reducible first | exact HB.out | apply below_alloc | apply pw_below_drewN | apply below_drew1) | exact HB.out)⟩
                                · replace c67 := Bool.eq_false_iff.mpr c67
                                  subst c67
                                  have H1 : (none) = some r := by rw [if_neg (show ¬ (false = true) by decide)] at H; exact H
                                  clear H
                                  have H := H1
                                  clear H1
                                  exact absurd H (by simp)
                              · rw [if_neg c65] at H
                                exact absurd H (by simp)
                            · replace c64 := Bool.eq_false_iff.mpr c64
                              subst c64
                              have H1 : ((some (([0] : List Int) : List Int)).bind fun y241 => (if y241.length + l0.length < 17592186044416 then ((bits_Value.f kj56 (y241 ++ l0)).bind fun bt247 => (if bt247.2 = 0 then (if bt247.1 = t229 then ((magnetolaw01_awake.f kj56).bind fun t249 => (some t249)) else (none)) else (none))) else (none))) = some r := by rw [if_neg (show ¬ (false = true) by decide)] at H; exact H
                              clear H
                              have H := H1
                              clear H1
                              obtain ⟨y241, hy241⟩ : ∃ y_ : List Int, y_ = (([0] : List Int)) := ⟨_, rfl⟩
                              replace H : (if y241.length + l0.length < 17592186044416 then ((bits_Value.f kj56 (y241 ++ l0)).bind fun bt247 => (if bt247.2 = 0 then (if bt247.1 = t229 then ((magnetolaw01_awake.f kj56).bind fun t249 => (some t249)) else (none)) else (none))) else (none)) = some r := by first | (rw [hy241]; with_reducible exact H) | (have H2_ := (Option.bind_some _ _).symm.trans H; rw [hy241]; with_reducible exact H2_) | (have H2_ := (Option.bind_some _ _).symm.trans H; with_reducible exact H2_) | with_reducible exact H | (rw [hy241]; exact H) | exact H
                              have Ny241 := Aside0.mk hy241
                              clear hy241
                              by_cases c71 : y241.length + l0.length < 17592186044416
                              · rw [if_pos c71] at H
                                have LMc71 := Aside0.mk c71
                                clear c71
                                obtain ⟨y244, hy244⟩ : ∃ y_ : List Int, y_ = (y241 ++ l0) := ⟨_, rfl⟩
                                replace H : ((bits_Value.f kj56 y244).bind fun bt247 => (if bt247.2 = 0 then (if bt247.1 = t229 then ((magnetolaw01_awake.f kj56).bind fun t249 => (some t249)) else (none)) else (none))) = some r := by first | (rw [hy244]; with_reducible exact H) | (have H2_ := (Option.bind_some _ _).symm.trans H; rw [hy244]; with_reducible exact H2_) | (have H2_ := (Option.bind_some _ _).symm.trans H; with_reducible exact H2_) | with_reducible exact H | (rw [hy244]; exact H) | exact H
                                have Ny244 := Aside0.mk hy244
                                clear hy244
                                replace H := Option.bind_eq_some_iff.mp H
                                obtain ⟨⟨t247, t248⟩, A720, H⟩ := H
                                replace H : (if t248 = 0 then (if t247 = t229 then ((magnetolaw01_awake.f kj56).bind fun t249 => (some t249)) else (none)) else (none)) = some r := H
                                have A72 := Aside0.mk A720
                                clear A720
                                by_cases c73 : t248 = 0
                                · rw [if_pos c73] at H
                                  have c73b0 : (t248 == 0) = true := beq_iff_eq.mpr c73
                                  have c73b1 : (t248 != 0) = false := bne_eq_false_iff_eq.mpr c73
                                  clear c73
                                  by_cases c74 : t247 = t229
                                  · rw [if_pos c74] at H
                                    have c74b0 : (t247 == t229) = true := beq_iff_eq.mpr c74
                                    have c74b1 : (t247 != t229) = false := bne_eq_false_iff_eq.mpr c74
                                    clear c74
                                    replace H := Option.bind_eq_some_iff.mp H
                                    obtain ⟨t249, A750, H⟩ := H
                                    replace H : (some t249) = some r := H
                                    have A75 := Aside0.mk A750
                                    clear A750
                                    obtain rfl := Option.some.inj H
                                    go_wp2_with (first | ((with_reducible refine gate_dst (N := 189) rfl ?_); (try (refine gate_guard (by rfl) ?_; dsimp only)); refine Kd.R_lit (Kd.int .i64) _ 3 ?hg (N := 189) ?hd (xs := ([0] : List Int)) (inner := [.int .i64 0]) (ok := fun _ => True) (okp := fun _ => True) ?hr ?hp (fun _ hk => hk) trivial (Below.refl _ _) (Nat.le_refl _) (by simp) ?_; (case hd => rfl); (case hg => rfl); (case hr => first | (go_simp; done) | (go_simp; rfl)); (case hp => exact (Reps.one (show Kd.M (Kd.int .i64) _ _ _ 0 [.int .i64 0] from rfl) (Reps.none _ _))); intro v242 w76 ho77 hb hg_ hnew_; clear hg_ hnew_; (first | rw [← Ny241.out] at ho77 | (simp only [Int.reduceToNat] at ho77; rw [← Ny241.out] at ho77)); have n0_ := Aside0.mk (Kd.R_elder' (by (with_reducible repeat (first | apply Kd.R_alloc | apply Kd.R_drewN | apply Kd.R_drew)); exact HO_26.out) (Kd.R_base ho77) hb); have n1_ := Aside0.mk (Kd.R_lower (Kd.R_new' ho77 (Kd.R_lt (by (with_reducible repeat (first | apply Kd.R_alloc | apply Kd.R_drewN | apply Kd.R_drew)); exact HO_26.out))) (below_size (by repeat (first | (with_reducible first | exact HB.out | apply below_alloc | apply pw_below_drewN | apply below_drew1) | exact HB.out)))); have n2_ := Aside0.mk (below_step (by repeat (first | (with_reducible first | exact HB.out | apply below_alloc | apply pw_below_drewN | apply below_drew1) | exact HB.out)) hb); clear HO_26; clear HB; have HO_26 := n0_; have HO243 := n1_; have HB := n2_; clear n0_ n1_ n2_; clear hb ho77) | ((with_reducible refine gate_builtin (b := .append) (xs := #[.tmp 189, .tmp 190]) rfl ?_); (try (refine gate_guard (by rfl) ?_; dsimp only)); at_builtin; refine Kd.R_append_rows (Kd.int .i64) (w0 := w) w.heap.size rfl (.tmp 189) (.tmp 190) 22 3 (.int .i64 0) 8 rfl Try.underlying22 info3 rfl (by decide) (by omega) v242 y241 l0 _ _ _ (fun k_ => some k_ ≠ (v236 : Value).ownBlock) (fun _ => False) rfl rfl ?aO ?aR (fun _ _ h => h) (fun _ h => h.elim) ?aF ?aB ?aS ?aL ?_; (case aR => repeat (first | exact (Kd.C_below HR0.out HB.out) | (with_reducible refine Kd.C_alloc ?_ _) | (with_reducible refine Kd.C_drewN ?_ _) | (with_reducible refine Kd.C_drew ?_))); (case aB => exact (by repeat (first | (with_reducible first | exact HB.out | apply below_alloc | apply pw_below_drewN | apply below_drew1) | exact HB.out))); (case aF => exact (fun k_ hk => Kd.fresh' (Kd.R_lt (by (with_reducible repeat (first | apply Kd.R_alloc | apply Kd.R_drewN | apply Kd.R_drew)); exact HO_26.out)) k_ hk)); (case aO => exact (by (with_reducible repeat (first | apply Kd.R_alloc | apply Kd.R_drewN | apply Kd.R_drew)); exact Kd.R_mono HO243.out (fun _ hk => hk.2))); (case aS => exact (below_size (by repeat (first | (with_reducible first | exact HB.out | apply below_alloc | apply pw_below_drewN | apply below_drew1) | exact HB.out)))); (case aL => have := LMc71.out; omega); intro v245 w78 ho hb hg hat; rw [← Ny244.out] at ho; have n0_ := Aside0.mk (Kd.R_after (ok := (fun _ => True)) (by (with_reducible repeat (first | apply Kd.R_alloc | apply Kd.R_drewN | apply Kd.R_drew)); exact HO_26.out) hg hat); have n1_ := Aside0.mk (hb); have n2_ := Aside0.mk (ho); clear HO_26; clear HB; clear HO243; have HO_26 := n0_; have HB := n1_; have HO246 := n2_; clear n0_ n1_ n2_; clear ho hb hg hat; obtain ⟨Ao79, co79, eo79⟩ := Kd.R_slice HO246.out; subst eo79) | ((with_reducible refine gate_callee (f := 30) rfl ?_); refine goesL_ (some 192) rfl rfl Try.func30 (by kernel_rfl) rfl #[.slice Ao79 y244.length co79] rfl (by (try simp only [List.map_toArray, List.map_cons, List.map_nil]); first | done | rfl | (simp only [List.length_drop, List.length_take]; rfl)) ?_; (with_reducible refine (bits_Value.calls kj56 _ _ y244 t247 t248 _ ?side1 ?side2 A72.out).mono ?_); (case side1 => repeat (first | exact (Kd.R_reads' HO246.out).2.2 | (with_reducible refine Kd.C_alloc ?_ _) | (with_reducible refine Kd.C_drewN ?_ _) | (with_reducible refine Kd.C_drew ?_))); (case side2 => exact (Kd.R_reads' HO246.out).2.1); rintro e w' ⟨rfl, ⟨nd, rfl⟩⟩; refine ⟨_, rfl, ?_⟩) | (go_at_call 21; (with_reducible refine (magnetolaw01_awake.calls kj56  t249 _ A75.out).mono ?_); rintro e w80 ⟨rfl, hb⟩; have n0_ := Aside0.mk (Kd.R_below (by (with_reducible repeat (first | apply Kd.R_alloc | apply Kd.R_drewN | apply Kd.R_drew)); exact HO_26.out) hb); have n1_ := Aside0.mk (Kd.R_below (by (with_reducible repeat (first | apply Kd.R_alloc | apply Kd.R_drewN | apply Kd.R_drew)); exact HO246.out) hb); have n2_ := Aside0.mk (below_step (by repeat (first | (with_reducible first | exact HB.out | apply below_alloc | apply pw_below_drewN | apply below_drew1) | exact HB.out)) hb); clear HO_26; clear HO246; clear HB; have HO_26 := n0_; have HO246 := n1_; have HB := n2_; clear n0_ n1_ n2_; (try clear hb); (try clear hb2); (try clear hk); (try clear hi)))
                                    go_ret
                                    exact ⟨by first | rfl | (simp [errW_none, errW_some] <;> rfl) | (simp [*, errW_none, errW_some] <;> rfl), by repeat (first | (with_reducible first | exact HB.out | apply below_alloc | apply pw_below_drewN | apply below_drew1) | exact HB.out)⟩
                                  · rw [if_neg c74] at H
                                    exact absurd H (by simp)
                                · rw [if_neg c73] at H
                                  exact absurd H (by simp)
                              · rw [if_neg c71] at H
                                exact absurd H (by simp)
                      · rw [if_neg c55] at H
                        have c55b0 : (t230 == 0) = false := beq_eq_false_iff_ne.mpr c55
                        have c55b1 : (t230 != 0) = true := bne_iff_ne.mpr c55
                        by_cases c81 : (l0.length : Int) > 64
                        · rw [if_pos c81] at H
                          have c81b0 : decide (64 < (l0.length : Int)) = true := decide_eq_true c81
                          have c81b1 : decide (64 < l0.length) = true := decide_eq_true (by omega)
                          clear c81
                          replace H := Option.bind_eq_some_iff.mp H
                          obtain ⟨t231, A820, H⟩ := H
                          replace H : (some t231) = some r := H
                          have A82 := Aside0.mk A820
                          clear A820
                          obtain rfl := Option.some.inj H
                          go_wp2_with (first | ((with_reducible refine gate_callee (f := 30) rfl ?_); refine goesL_ (some 142) rfl rfl Try.func30 (by kernel_rfl) rfl #[.slice A0 l0.length c0] rfl (by (try simp only [List.map_toArray, List.map_cons, List.map_nil]); first | done | rfl | (simp only [List.length_drop, List.length_take]; rfl)) ?_; (with_reducible refine (bits_Value.calls k4 _ _ l0 t229 t230 _ ?side1 ?side2 A54.out).mono ?_); (case side1 => repeat (first | exact (Kd.C_below HR0.out HB.out) | (with_reducible refine Kd.C_alloc ?_ _) | (with_reducible refine Kd.C_drewN ?_ _) | (with_reducible refine Kd.C_drew ?_))); (case side2 => exact HC0.out); rintro e w' ⟨rfl, ⟨nd, rfl⟩⟩; refine ⟨_, rfl, ?_⟩) | (go_at_call 21; (with_reducible refine (magnetolaw01_awake.calls k4  t231 _ A82.out).mono ?_); rintro e w83 ⟨rfl, hb⟩; have n0_ := Aside0.mk (below_step (by repeat (first | (with_reducible first | exact HB.out | apply below_alloc | apply pw_below_drewN | apply below_drew1) | exact HB.out)) hb); clear HB; have HB := n0_; clear n0_; (try clear hb); (try clear hb2); (try clear hk); (try clear hi)))
                          go_ret
                          exact ⟨by first | rfl | (simp [errW_none, errW_some] <;> rfl) | (simp [*, errW_none, errW_some] <;> rfl), by repeat (first | (with_reducible first | exact HB.out | apply below_alloc | apply pw_below_drewN | apply below_drew1) | exact HB.out)⟩
                        · rw [if_neg c81] at H
                          have c81b0 : decide (64 < (l0.length : Int)) = false := decide_eq_false c81
                          have c81b1 : decide (64 < l0.length) = false := decide_eq_false (by omega)
                          clear c81
                          replace H := Option.bind_eq_some_iff.mp H
                          obtain ⟨t232, A840, H⟩ := H
                          replace H : (if t232 ≥ 0 then ((magnetolaw01_awake.f k4).bind fun t233 => (some t233)) else (none)) = some r := H
                          have A84 := Aside0.mk A840
                          clear A840
                          by_cases c85 : t232 ≥ 0
                          · rw [if_pos c85] at H
                            have c85b0 : decide (0 ≤ t232) = true := decide_eq_true c85
                            clear c85
                            replace H := Option.bind_eq_some_iff.mp H
                            obtain ⟨t233, A860, H⟩ := H
                            replace H : (some t233) = some r := H
                            have A86 := Aside0.mk A860
                            clear A860
                            obtain rfl := Option.some.inj H
                            go_wp2_with (first | ((with_reducible refine gate_callee (f := 30) rfl ?_); refine goesL_ (some 142) rfl rfl Try.func30 (by kernel_rfl) rfl #[.slice A0 l0.length c0] rfl (by (try simp only [List.map_toArray, List.map_cons, List.map_nil]); first | done | rfl | (simp only [List.length_drop, List.length_take]; rfl)) ?_; (with_reducible refine (bits_Value.calls k4 _ _ l0 t229 t230 _ ?side1 ?side2 A54.out).mono ?_); (case side1 => repeat (first | exact (Kd.C_below HR0.out HB.out) | (with_reducible refine Kd.C_alloc ?_ _) | (with_reducible refine Kd.C_drewN ?_ _) | (with_reducible refine Kd.C_drew ?_))); (case side2 => exact HC0.out); rintro e w' ⟨rfl, ⟨nd, rfl⟩⟩; refine ⟨_, rfl, ?_⟩) | (go_at_call 24; (with_reducible refine (bits_Check.calls _ _ l0 t232 _ ?side1 ?side2 A84.out).mono ?_); (case side1 => repeat (first | exact (Kd.C_below HR0.out (by repeat (first | (with_reducible first | exact HB.out | apply below_alloc | apply pw_below_drewN | apply below_drew1) | exact HB.out))) | (with_reducible refine Kd.C_alloc ?_ _) | (with_reducible refine Kd.C_drewN ?_ _) | (with_reducible refine Kd.C_drew ?_))); (case side2 => exact HC0.out); rintro e w' ⟨rfl, ⟨nd, rfl⟩⟩) | (go_at_call 21; (with_reducible refine (magnetolaw01_awake.calls k4  t233 _ A86.out).mono ?_); rintro e w87 ⟨rfl, hb⟩; have n0_ := Aside0.mk (below_step (by repeat (first | (with_reducible first | exact HB.out | apply below_alloc | apply pw_below_drewN | apply below_drew1) | exact HB.out)) hb); clear HB; have HB := n0_; clear n0_; (try clear hb); (try clear hb2); (try clear hk); (try clear hi)))
                            go_ret
                            exact ⟨by first | rfl | (simp [errW_none, errW_some] <;> rfl) | (simp [*, errW_none, errW_some] <;> rfl), by repeat (first | (with_reducible first | exact HB.out | apply below_alloc | apply pw_below_drewN | apply below_drew1) | exact HB.out)⟩
                          · rw [if_neg c85] at H
                            exact absurd H (by simp)

/-- THE ONE PURE STATEMENT of magnetolaw01_BitsBack: yours. -/
def magnetolaw01_BitsBack.Pure : Prop := ∀ (l0 : List Int) (a1 : ByteArray) (a2 : Int), l0.length ≤ maxLen → l0.length * 8 ≤ 140737488351232 → (∀ x ∈ l0, (Lit.int .i64 x).wf = true) → a1.size ≤ 140737488351232 → (Lit.int .u64 a2).wf = true → ∃ k, magnetolaw01_BitsBack.f k l0 a1 a2 = some true
theorem magnetolaw01_BitsBack.walk (P : magnetolaw01_BitsBack.Pure) (a0 : Option Addr) (len0 cap0 : Nat) (z0 : List Int) (a1 : ByteArray) (a2 : Int) (w : World) (w0 : (a0 = none ∧ len0 = 0 ∧ cap0 = 0 ∧ z0 = []) ∨ ∃ x, a0 = some x ∧ len0 ≤ cap0 ∧ cap0 ≤ maxLen ∧ z0.length = cap0 ∧ (∀ i, i < z0.length → w.cell? (x.add i) = some (.int .i64 (z0.getD i 0))) ∧ ∀ n ∈ z0, (Lit.int .i64 n).wf = true) (y0 : len0 * 8 ≤ 140737488351232) (w1 : a1.size ≤ 140737488351232) (w2 : (Lit.int .u64 a2).wf = true) :
    Calls Try.prog 5 #[.slice a0 len0 cap0, .string a1, .int .u64 a2] w fun e w' => e = .returned (.bool true) ∧ Below w.heap.size w w' := by
  obtain ⟨l0, rfl, hr0, hm0, hw0, hc0⟩ := ReadsInt.ofRowC w0
  obtain ⟨k, h⟩ := P l0 a1 a2 hm0 y0 hw0 w1 w2
  refine (magnetolaw01_BitsBack.calls k _ _ l0 a1 a2 true w (Kd.C_of_reads (d := (0 : Int)) (h1 := fun _ => rfl) hr0) hc0 h).mono ?_
  rintro e w' ⟨rfl, hd⟩
  exact ⟨rfl, hd⟩

end Go.Proofs.Ytclmogjmmcjppaa.PA
