/- Functions of the program, in plain Lean, and their walks (printed; half the indent). Conditions: none. -/
-- PRINTED by print.py (a twelfth state) out of the translation. Not trusted: Lean checks it.
import Derived.Test.YtakemodmdhglnaaPAx0
import Derived.Test.YtakemodmdhglnaaPAx1
import Derived.Test.YtakemodmdhglnaaPAx31
import Derived.Test.YtakemodmdhglnaaPAx34
import Derived.Test.YtakemodmdhglnaaPAx35
namespace Go.Proofs.Ytakemodmdhglnaa.PA
open Go.RowKit Go.Proofs.YtakemodmdhglnaaW.PrintWords Go.Proofs.YtakemodmdhglnaaW.PrintLast Go.Proofs.YtakemodmdhglnaaW.PrintMore
attribute [local go_sem] zqbb zqaz zqbd zqbe zqax zqay zqba zqbc   -- for this text's walks alone
set_option linter.unusedVariables false
set_option linter.unusedSimpArgs false

attribute [local go_sem high] eqA24
/-! ### codec_Longest: function 39 -/
def codec_Longest.j0 : Nat → Int → Bool → Bool → Option (Int × Int)
 | 0, _, _, _ => none
 | k + 1, x0, x1, x14 => if x14 = true then (some (0, 10)) else (if x1 = true then ((stuff_Most.f (wrap64 (54 + (wrap64 (8 * x0))))).bind fun bt665 => (some (wrap64 ((wrap64 ((wrap64 (54 + (wrap64 (8 * x0)))) + bt665.1)) + 10), bt665.2))) else ((stuff_Most.f (wrap64 (34 + (wrap64 (8 * x0))))).bind fun bt667 => (some (wrap64 ((wrap64 ((wrap64 (34 + (wrap64 (8 * x0)))) + bt667.1)) + 10), bt667.2))))
def codec_Longest.f (k : Nat) (a0 : Int) (a1 : Bool) : Option (Int × Int) := if a0 < 0 then (codec_Longest.j0 k a0 a1 true) else (codec_Longest.j0 k a0 a1 (decide (a0 > 8)))
theorem codec_Longest.mono_l : ∀ k, (∀ y0 y1 y2, LeO (codec_Longest.j0 k y0 y1 y2) (codec_Longest.j0 (k + 1) y0 y1 y2))
 | 0 => fun _ _ _ r h => by simp [codec_Longest.j0] at h
 | k + 1 => by
  have ih0 := codec_Longest.mono_l k
  ·
   intro y0 y1 y2
   unfold codec_Longest.j0
   repeat' first
   | (with_reducible exact ih0 _ _ _)
   | (with_reducible exact LeO.refl _)
   | (with_reducible exact LeO.none _)
   | (with_reducible refine LeO.ite ?_ ?_)
   | (with_reducible refine LeO.bind ?_ (fun _ => ?_))
   | exact ih0 _ _ _
   | exact LeO.none _
   | refine LeO.ite ?_ ?_
   | refine LeO.bind ?_ (fun _ => ?_)
theorem codec_Longest.mono : ∀ a0 a1 k, LeO (codec_Longest.f k a0 a1) (codec_Longest.f (k + 1) a0 a1) := by
 intro a0 a1 k
 have ih0 := codec_Longest.mono_l k
 unfold codec_Longest.f
 repeat' first
   | (with_reducible exact ih0 _ _ _)
   | (with_reducible exact LeO.refl _)
   | (with_reducible exact LeO.none _)
   | (with_reducible refine LeO.ite ?_ ?_)
   | (with_reducible refine LeO.bind ?_ (fun _ => ?_))
   | exact ih0 _ _ _
   | exact LeO.none _
   | refine LeO.ite ?_ ?_
   | refine LeO.bind ?_ (fun _ => ?_)
set_option maxHeartbeats 8000000 in
set_option maxRecDepth 100000 in
theorem codec_Longest.calls (k : Nat) (a0 : Int) (a1 : Bool) (r1 : Int) (r2 : Int) (w : World) (h : codec_Longest.f k a0 a1 = some (r1, r2)) :
  Calls Try.prog 39 #[.int .i64 a0, .bool a1] w fun e w' => e = .returned (.tuple #[.int .i64 r1, .int .i64 r2]) ∧ Drawn0 w w' := by
 have H : (if a0 < 0 then (codec_Longest.j0 k a0 a1 true) else (codec_Longest.j0 k a0 a1 (decide (a0 > 8)))) = some (r1, r2) := h
 clear h
 have HC3 := Aside0.mk H
 clear H
 go_enter Try.func39, Try.ntmps39
 go_upto_region 1 with (fail)
 go_cut [14] (fun v14 wc => ∃ (kq : Nat) (x14_2 : Bool), v14 = .bool x14_2 ∧ Aside0 (codec_Longest.j0 kq a0 a1 x14_2 = some (r1, r2)) ∧ Aside0 (kq ≤ k) ∧ Drawn0 w wc)
 case first =>
  have H := HC3.out
  clear HC3
  by_cases c4 : a0 < 0
  ·
   rw [if_pos c4] at H
   have c4b0 : decide (a0 < 0) = true := decide_eq_true c4
   clear c4
   (first | rw [c4b0] | (simp only [i64_w, i32_w]; rw [c4b0]) | skip)
   have H' := Aside0.mk H
   clear H
   go_wp2
   go_meet
   case rel => exact ⟨_, (true), (by first | rfl | (simp; done) | (simp [*]; done)), H', ⟨by first | omega | exact Nat.le_refl _⟩, by repeat (first | exact Drawn0.refl _ | apply Drawn0.step)⟩
  ·
   rw [if_neg c4] at H
   have c4b0 : decide (a0 < 0) = false := decide_eq_false c4
   clear c4
   (first | rw [c4b0] | (simp only [i64_w, i32_w]; rw [c4b0]) | skip)
   have H' := Aside0.mk H
   clear H
   go_wp2
   go_meet
   case rel => exact ⟨_, (decide (a0 > 8)), (by first | rfl | (simp; done) | (simp [*]; done)), H', ⟨by first | omega | exact Nat.le_refl _⟩, by repeat (first | exact Drawn0.refl _ | apply Drawn0.step)⟩
 case rest =>
  clear HC3
  try clear p2
  try clear c3
  try clear c4
  try clear c4b0
  obtain ⟨kq, x14_2, rfl, HA, HJ2, ⟨mc2, rfl⟩⟩ := hcut
  cases kq with
  | zero => exact absurd HA.out (by simp [codec_Longest.j0])
  | succ kj2 =>
   have H := HA.out
   clear HA
   simp only [codec_Longest.j0] at H
   by_cases c5 : x14_2 = true
   ·
    subst c5
    have H1 : (some (0, 10)) = some (r1, r2) := by rw [if_pos rfl] at H; exact H
    clear H
    have H := H1
    clear H1
    simp only [Option.some.injEq, Prod.mk.injEq] at H
    obtain ⟨rfl, rfl⟩ := H
    go_wp2
    go_ret2
    exact ⟨by first | rfl | (simp; done) | (simp [*]; done), by repeat (first | exact Drawn0.refl _ | apply Drawn0.step)⟩
   ·
    replace c5 := Bool.eq_false_iff.mpr c5
    subst c5
    have H1 : (if a1 = true then ((stuff_Most.f (wrap64 (54 + (wrap64 (8 * a0))))).bind fun bt665 => (some (wrap64 ((wrap64 ((wrap64 (54 + (wrap64 (8 * a0)))) + bt665.1)) + 10), bt665.2))) else ((stuff_Most.f (wrap64 (34 + (wrap64 (8 * a0))))).bind fun bt667 => (some (wrap64 ((wrap64 ((wrap64 (34 + (wrap64 (8 * a0)))) + bt667.1)) + 10), bt667.2)))) = some (r1, r2) := by rw [if_neg (show ¬ (false = true) by decide)] at H; exact H
    clear H
    have H := H1
    clear H1
    by_cases c6 : a1 = true
    ·
     subst c6
     have H1 : ((stuff_Most.f (wrap64 (54 + (wrap64 (8 * a0))))).bind fun bt665 => (some (wrap64 ((wrap64 ((wrap64 (54 + (wrap64 (8 * a0)))) + bt665.1)) + 10), bt665.2))) = some (r1, r2) := by rw [if_pos rfl] at H; exact H
     clear H
     have H := H1
     clear H1
     replace H := Option.bind_eq_some_iff.mp H
     obtain ⟨⟨t665, t666⟩, A70, H⟩ := H
     replace H : (some (wrap64 ((wrap64 ((wrap64 (54 + (wrap64 (8 * a0)))) + t665)) + 10), t666)) = some (r1, r2) := H
     have A7 := Aside0.mk A70
     clear A70
     simp only [Option.some.injEq, Prod.mk.injEq] at H
     obtain ⟨rfl, rfl⟩ := H
     go_wp2_with (first | ((with_reducible refine zqal (f := 65) rfl ?_); refine goesL_ (some 24) rfl rfl Try.func65 (by kernel_rfl) rfl #[.int .i64 (wrap64 (54 + (wrap64 (8 * a0))))] rfl (by (try simp only [List.map_toArray, List.map_cons, List.map_nil]); first | done | rfl | (simp only [List.length_drop, List.length_take]; rfl)) ?_; (with_reducible refine (stuff_Most.calls (wrap64 (54 + (wrap64 (8 * a0)))) t665 t666 _ A7.out).mono ?_); rintro e w' ⟨rfl, ⟨nd, rfl⟩⟩; refine ⟨_, rfl, ?_⟩))
     go_ret2
     exact ⟨by first | rfl | (simp; done) | (simp [*]; done), by repeat (first | exact Drawn0.refl _ | apply Drawn0.step)⟩
    ·
     replace c6 := Bool.eq_false_iff.mpr c6
     subst c6
     have H1 : ((stuff_Most.f (wrap64 (34 + (wrap64 (8 * a0))))).bind fun bt667 => (some (wrap64 ((wrap64 ((wrap64 (34 + (wrap64 (8 * a0)))) + bt667.1)) + 10), bt667.2))) = some (r1, r2) := by rw [if_neg (show ¬ (false = true) by decide)] at H; exact H
     clear H
     have H := H1
     clear H1
     replace H := Option.bind_eq_some_iff.mp H
     obtain ⟨⟨t667, t668⟩, A80, H⟩ := H
     replace H : (some (wrap64 ((wrap64 ((wrap64 (34 + (wrap64 (8 * a0)))) + t667)) + 10), t668)) = some (r1, r2) := H
     have A8 := Aside0.mk A80
     clear A80
     simp only [Option.some.injEq, Prod.mk.injEq] at H
     obtain ⟨rfl, rfl⟩ := H
     go_wp2_with (first | ((with_reducible refine zqal (f := 65) rfl ?_); refine goesL_ (some 24) rfl rfl Try.func65 (by kernel_rfl) rfl #[.int .i64 (wrap64 (34 + (wrap64 (8 * a0))))] rfl (by (try simp only [List.map_toArray, List.map_cons, List.map_nil]); first | done | rfl | (simp only [List.length_drop, List.length_take]; rfl)) ?_; (with_reducible refine (stuff_Most.calls (wrap64 (34 + (wrap64 (8 * a0)))) t667 t668 _ A8.out).mono ?_); rintro e w' ⟨rfl, ⟨nd, rfl⟩⟩; refine ⟨_, rfl, ?_⟩))
     go_ret2
     exact ⟨by first | rfl | (simp; done) | (simp [*]; done), by repeat (first | exact Drawn0.refl _ | apply Drawn0.step)⟩

/-! ### magnetolaw06_ints: function 40 -/
def magnetolaw06_ints.l0 : Nat → List Int → List Int → Int → Option (Bool)
 | 0, _, _, _ => none
 | k + 1, x0, x1, x5 => if x5 < (x0.length : Int) then (if 0 ≤ x5 then (if x5 < (x1.length : Int) then (if (rd x0 x5) = (rd x1 x5) then (magnetolaw06_ints.l0 k x0 x1 (wrap64 (x5 + 1))) else (some false)) else (none)) else (none)) else (some true)
def magnetolaw06_ints.f (k : Nat) (l0 : List Int) (l1 : List Int) : Option (Bool) := if (l0.length : Int) = (l1.length : Int) then (magnetolaw06_ints.l0 k l0 l1 0) else (some false)
theorem magnetolaw06_ints.mono_l : ∀ k, (∀ y0 y1 y2, LeO (magnetolaw06_ints.l0 k y0 y1 y2) (magnetolaw06_ints.l0 (k + 1) y0 y1 y2))
 | 0 => fun _ _ _ r h => by simp [magnetolaw06_ints.l0] at h
 | k + 1 => by
  have ih0 := magnetolaw06_ints.mono_l k
  ·
   intro y0 y1 y2
   unfold magnetolaw06_ints.l0
   repeat' first
   | (with_reducible exact ih0 _ _ _)
   | (with_reducible exact LeO.refl _)
   | (with_reducible exact LeO.none _)
   | (with_reducible refine LeO.ite ?_ ?_)
   | (with_reducible refine LeO.bind ?_ (fun _ => ?_))
   | exact ih0 _ _ _
   | exact LeO.none _
   | refine LeO.ite ?_ ?_
   | refine LeO.bind ?_ (fun _ => ?_)
theorem magnetolaw06_ints.mono : ∀ a0 a1 k, LeO (magnetolaw06_ints.f k a0 a1) (magnetolaw06_ints.f (k + 1) a0 a1) := by
 intro a0 a1 k
 have ih0 := magnetolaw06_ints.mono_l k
 unfold magnetolaw06_ints.f
 repeat' first
   | (with_reducible exact ih0 _ _ _)
   | (with_reducible exact LeO.refl _)
   | (with_reducible exact LeO.none _)
   | (with_reducible refine LeO.ite ?_ ?_)
   | (with_reducible refine LeO.bind ?_ (fun _ => ?_))
   | exact ih0 _ _ _
   | exact LeO.none _
   | refine LeO.ite ?_ ?_
   | refine LeO.bind ?_ (fun _ => ?_)
set_option maxHeartbeats 8000000 in
set_option maxRecDepth 100000 in
theorem magnetolaw06_ints.calls (k : Nat) (A0 : Option Addr) (c0 : Nat) (l0 : List Int) (A1 : Option Addr) (c1 : Nat) (l1 : List Int) (r : Bool) (w : World) (hr0 : Kd.C (Kd.int .i64) w A0 l0.length l0) (hc0 : l0.length ≤ c0) (hr1 : Kd.C (Kd.int .i64) w A1 l1.length l1) (hc1 : l1.length ≤ c1) (h : magnetolaw06_ints.f k l0 l1 = some r) :
  Calls Try.prog 40 #[.slice A0 l0.length c0, .slice A1 l1.length c1] w fun e w' => e = .returned (.bool r) ∧ Drawn0 w w' := by
 have HR0 := Aside0.mk hr0
 have HC0 := Aside0.mk hc0
 clear hr0 hc0
 have HR1 := Aside0.mk hr1
 have HC1 := Aside0.mk hc1
 clear hr1 hc1
 have H : (if (l0.length : Int) = (l1.length : Int) then (magnetolaw06_ints.l0 k l0 l1 0) else (some false)) = some r := h
 clear h
 by_cases c3 : (l0.length : Int) = (l1.length : Int)
 ·
  rw [if_pos c3] at H
  have c3b0 : ((l0.length : Int) == (l1.length : Int)) = true := beq_iff_eq.mpr c3
  have c3b1 : ((l0.length : Int) != (l1.length : Int)) = false := bne_eq_false_iff_eq.mpr c3
  have c3b2 : (l0.length == l1.length) = true := by first | simpa using c3 | (simp at c3 ⊢; omega)
  clear c3
  have H' := Aside0.mk H
  clear H
  go_enter Try.func40, Try.ntmps40
  go_wp2
  repeat (go_quiet (fail); try go_wp2)
  go_loopg [5] k (fun kq v5 w' => ∃ (x5_1 : Int), v5 = .int .i64 x5_1 ∧ Aside0 (magnetolaw06_ints.l0 kq l0 l1 x5_1 = some r) ∧ Aside0 (kq ≤ k) ∧ Drawn0 w w')
  case atStart => exact ⟨(0), (by first | rfl | (simp; done) | (simp [*]; done)), H', ⟨Nat.le_refl _⟩, by repeat (first | exact Drawn0.refl _ | apply Drawn0.step)⟩
  case round =>
   clear H'
   try clear c1
   try clear p2
   try clear c3
   try clear c3b0
   try clear c3b1
   try clear c3b2
   obtain ⟨x5_1, rfl, HA, HK1, ⟨m1, rfl⟩⟩ := hrel
   cases gk with
   | zero => exact absurd HA.out (by simp [magnetolaw06_ints.l0])
   | succ k1 =>
    have H := HA.out
    clear HA
    simp only [magnetolaw06_ints.l0] at H
    by_cases c4 : x5_1 < (l0.length : Int)
    ·
     rw [if_pos c4] at H
     have c4b0 : decide (x5_1 < (l0.length : Int)) = true := decide_eq_true c4
     clear c4
     by_cases c5 : 0 ≤ x5_1
     ·
      rw [if_pos c5] at H
      have c5b0 : decide (0 ≤ x5_1) = true := decide_eq_true c5
      clear c5
      by_cases c6 : x5_1 < (l1.length : Int)
      ·
       rw [if_pos c6] at H
       have c6b0 : decide (x5_1 < (l1.length : Int)) = true := decide_eq_true c6
       clear c6
       by_cases c7 : (rd l0 x5_1) = (rd l1 x5_1)
       ·
        rw [if_pos c7] at H
        have c7b0 : ((rd l0 x5_1) == (rd l1 x5_1)) = true := beq_iff_eq.mpr c7
        have c7b1 : ((rd l0 x5_1) != (rd l1 x5_1)) = false := bne_eq_false_iff_eq.mpr c7
        clear c7
        have H' := Aside0.mk H
        clear H
        have p669 : 0 ≤ (x5_1 : Int) := of_decide_eq_true (by first | (with_reducible assumption) | assumption)
        have q669 : x5_1 < (l0.length : Int) := of_decide_eq_true (by first | (with_reducible assumption) | assumption)
        obtain ⟨ad669, e669, hx669_0⟩ := Kd.at_int HR0.out x5_1 p669 q669
        cases e669
        replace p669 := eq_true p669
        replace q669 := eq_true q669
        have p670 : 0 ≤ (x5_1 : Int) := of_decide_eq_true (by first | (with_reducible assumption) | assumption)
        have q670 : x5_1 < (l1.length : Int) := of_decide_eq_true (by first | (with_reducible assumption) | assumption)
        obtain ⟨ad670, e670, hx670_0⟩ := Kd.at_int HR1.out x5_1 p670 q670
        cases e670
        replace p670 := eq_true p670
        replace q670 := eq_true q670
        go_wp2
        repeat (go_quiet (fail); try go_wp2)
        go_roundg k1
        case measure => have := HK1.out; omega
        case rel => exact ⟨(wrap64 (x5_1 + 1)), (by first | rfl | (simp; done) | (simp [*]; done)), H', ⟨by have := HK1.out; omega⟩, by repeat (first | exact Drawn0.refl _ | apply Drawn0.step)⟩
       ·
        rw [if_neg c7] at H
        have c7b0 : ((rd l0 x5_1) == (rd l1 x5_1)) = false := beq_eq_false_iff_ne.mpr c7
        have c7b1 : ((rd l0 x5_1) != (rd l1 x5_1)) = true := bne_iff_ne.mpr c7
        obtain rfl := Option.some.inj H
        have p669 : 0 ≤ (x5_1 : Int) := of_decide_eq_true (by first | (with_reducible assumption) | assumption)
        have q669 : x5_1 < (l0.length : Int) := of_decide_eq_true (by first | (with_reducible assumption) | assumption)
        obtain ⟨ad669, e669, hx669_0⟩ := Kd.at_int HR0.out x5_1 p669 q669
        cases e669
        replace p669 := eq_true p669
        replace q669 := eq_true q669
        have p670 : 0 ≤ (x5_1 : Int) := of_decide_eq_true (by first | (with_reducible assumption) | assumption)
        have q670 : x5_1 < (l1.length : Int) := of_decide_eq_true (by first | (with_reducible assumption) | assumption)
        obtain ⟨ad670, e670, hx670_0⟩ := Kd.at_int HR1.out x5_1 p670 q670
        cases e670
        replace p670 := eq_true p670
        replace q670 := eq_true q670
        go_wp2
        repeat (go_quiet (fail); try go_wp2)
        go_ret
        exact ⟨by first | rfl | (simp; done) | (simp [*]; done), by repeat (first | exact Drawn0.refl _ | apply Drawn0.step)⟩
      ·
       rw [if_neg c6] at H
       exact absurd H (by simp)
     ·
      rw [if_neg c5] at H
      exact absurd H (by simp)
    ·
     rw [if_neg c4] at H
     have c4b0 : decide (x5_1 < (l0.length : Int)) = false := decide_eq_false c4
     clear c4
     obtain rfl := Option.some.inj H
     go_wp2
     repeat (go_quiet (fail); try go_wp2)
     go_ret
     exact ⟨by first | rfl | (simp; done) | (simp [*]; done), by repeat (first | exact Drawn0.refl _ | apply Drawn0.step)⟩
 ·
  rw [if_neg c3] at H
  have c3b0 : ((l0.length : Int) == (l1.length : Int)) = false := beq_eq_false_iff_ne.mpr c3
  have c3b1 : ((l0.length : Int) != (l1.length : Int)) = true := bne_iff_ne.mpr c3
  have c3b2 : (l0.length == l1.length) = false := by first | simpa using c3 | (simp at c3 ⊢; omega)
  obtain rfl := Option.some.inj H
  go_enter Try.func40, Try.ntmps40
  go_wp2
  repeat (go_quiet (fail); try go_wp2)
  go_ret
  exact ⟨by first | rfl | (simp; done) | (simp [*]; done), by repeat (first | exact Drawn0.refl _ | apply Drawn0.step)⟩

/-! ### magnetolaw06_awake: function 34 -/
def magnetolaw06_awake.f (k : Nat)  : Option (Bool) := (codec_Encode.f k 0 false false 0 0 0 0 0 0 0 0 0 true).bind fun bt671 => ((codec_Decode.f bt671.1).bind fun bt675 => ((codec_Longest.f k 8 false).bind fun bt690 => (if bt671.2 = 0 then (if (bt671.1.length : Int) = 50 then (if 12 ≤ (bt671.1.length : Int) then ((magnetolaw06_ints.f k (bt671.1.take 12) (([0, 0, 0, 0, 0, 1, 0, 0, 0, 0, 0, 1] : List Int))).bind fun t699 => (if t699 = true then (if 0 ≤ (wrap64 ((bt671.1.length : Int) - 9)) then (if (wrap64 ((bt671.1.length : Int) - 9)) < (bt671.1.length : Int) then (if (rd bt671.1 (wrap64 ((bt671.1.length : Int) - 9))) = 0 then (if (bt675.1 == 0 && (!bt675.2.1 && (!bt675.2.2.1 && (bt675.2.2.2.1 == 0 && ((bt675.2.2.2.2.1 == 0 && (bt675.2.2.2.2.2.1 == 0 && (bt675.2.2.2.2.2.2.1 == 0 && (bt675.2.2.2.2.2.2.2.1 == 0 && (bt675.2.2.2.2.2.2.2.2.1 == 0 && (bt675.2.2.2.2.2.2.2.2.2.1 == 0 && (bt675.2.2.2.2.2.2.2.2.2.2.1 == 0 && (bt675.2.2.2.2.2.2.2.2.2.2.2.1 == 0))))))))))))) = true then (if bt675.2.2.2.2.2.2.2.2.2.2.2.2.1 = (bt671.1.length : Int) then (if bt675.2.2.2.2.2.2.2.2.2.2.2.2.2 = 0 then (if bt690.1 = 132 then (some (bt690.2 == 0)) else (none)) else (none)) else (none)) else (none)) else (none)) else (none)) else (none)) else (none))) else (none)) else (none)) else (none))))
theorem magnetolaw06_awake.mono : ∀ k, LeO (magnetolaw06_awake.f k ) (magnetolaw06_awake.f (k + 1) ) := by
 intro  k
 unfold magnetolaw06_awake.f
 repeat' first
   | (with_reducible exact codec_Encode.mono _ _ _ _ _ _ _ _ _ _ _ _ _ _)
   | (with_reducible exact codec_Longest.mono _ _ _)
   | (with_reducible exact magnetolaw06_ints.mono _ _ _)
   | (with_reducible exact LeO.refl _)
   | (with_reducible exact LeO.none _)
   | (with_reducible refine LeO.ite ?_ ?_)
   | (with_reducible refine LeO.bind ?_ (fun _ => ?_))
   | exact codec_Encode.mono _ _ _ _ _ _ _ _ _ _ _ _ _ _
   | exact codec_Longest.mono _ _ _
   | exact magnetolaw06_ints.mono _ _ _
   | exact LeO.none _
   | refine LeO.ite ?_ ?_
   | refine LeO.bind ?_ (fun _ => ?_)
set_option maxHeartbeats 8000000 in
set_option maxRecDepth 100000 in
theorem magnetolaw06_awake.calls (k : Nat)  (r : Bool) (w : World) (h : magnetolaw06_awake.f k  = some r) :
  Calls Try.prog 34 #[] w fun e w' => e = .returned (.bool r) ∧ Below w.heap.size w w' := by
 have hu24 := Try.underlying24
 have HB := Aside0.mk (Below.refl w.heap.size w)
 have H : ((codec_Encode.f k 0 false false 0 0 0 0 0 0 0 0 0 true).bind fun bt671 => ((codec_Decode.f bt671.1).bind fun bt675 => ((codec_Longest.f k 8 false).bind fun bt690 => (if bt671.2 = 0 then (if (bt671.1.length : Int) = 50 then (if 12 ≤ (bt671.1.length : Int) then ((magnetolaw06_ints.f k (bt671.1.take 12) (([0, 0, 0, 0, 0, 1, 0, 0, 0, 0, 0, 1] : List Int))).bind fun t699 => (if t699 = true then (if 0 ≤ (wrap64 ((bt671.1.length : Int) - 9)) then (if (wrap64 ((bt671.1.length : Int) - 9)) < (bt671.1.length : Int) then (if (rd bt671.1 (wrap64 ((bt671.1.length : Int) - 9))) = 0 then (if (bt675.1 == 0 && (!bt675.2.1 && (!bt675.2.2.1 && (bt675.2.2.2.1 == 0 && ((bt675.2.2.2.2.1 == 0 && (bt675.2.2.2.2.2.1 == 0 && (bt675.2.2.2.2.2.2.1 == 0 && (bt675.2.2.2.2.2.2.2.1 == 0 && (bt675.2.2.2.2.2.2.2.2.1 == 0 && (bt675.2.2.2.2.2.2.2.2.2.1 == 0 && (bt675.2.2.2.2.2.2.2.2.2.2.1 == 0 && (bt675.2.2.2.2.2.2.2.2.2.2.2.1 == 0))))))))))))) = true then (if bt675.2.2.2.2.2.2.2.2.2.2.2.2.1 = (bt671.1.length : Int) then (if bt675.2.2.2.2.2.2.2.2.2.2.2.2.2 = 0 then (if bt690.1 = 132 then (some (bt690.2 == 0)) else (none)) else (none)) else (none)) else (none)) else (none)) else (none)) else (none)) else (none))) else (none)) else (none)) else (none))))) = some r := h
 clear h
 replace H := Option.bind_eq_some_iff.mp H
 obtain ⟨⟨t671, t674⟩, A10, H⟩ := H
 replace H : ((codec_Decode.f t671).bind fun bt675 => ((codec_Longest.f k 8 false).bind fun bt690 => (if t674 = 0 then (if (t671.length : Int) = 50 then (if 12 ≤ (t671.length : Int) then ((magnetolaw06_ints.f k (t671.take 12) (([0, 0, 0, 0, 0, 1, 0, 0, 0, 0, 0, 1] : List Int))).bind fun t699 => (if t699 = true then (if 0 ≤ (wrap64 ((t671.length : Int) - 9)) then (if (wrap64 ((t671.length : Int) - 9)) < (t671.length : Int) then (if (rd t671 (wrap64 ((t671.length : Int) - 9))) = 0 then (if (bt675.1 == 0 && (!bt675.2.1 && (!bt675.2.2.1 && (bt675.2.2.2.1 == 0 && ((bt675.2.2.2.2.1 == 0 && (bt675.2.2.2.2.2.1 == 0 && (bt675.2.2.2.2.2.2.1 == 0 && (bt675.2.2.2.2.2.2.2.1 == 0 && (bt675.2.2.2.2.2.2.2.2.1 == 0 && (bt675.2.2.2.2.2.2.2.2.2.1 == 0 && (bt675.2.2.2.2.2.2.2.2.2.2.1 == 0 && (bt675.2.2.2.2.2.2.2.2.2.2.2.1 == 0))))))))))))) = true then (if bt675.2.2.2.2.2.2.2.2.2.2.2.2.1 = (t671.length : Int) then (if bt675.2.2.2.2.2.2.2.2.2.2.2.2.2 = 0 then (if bt690.1 = 132 then (some (bt690.2 == 0)) else (none)) else (none)) else (none)) else (none)) else (none)) else (none)) else (none)) else (none))) else (none)) else (none)) else (none)))) = some r := H
 have A1 := Aside0.mk A10
 clear A10
 replace H := Option.bind_eq_some_iff.mp H
 obtain ⟨⟨t675, t676, t677, t678, t679, t680, t681, t682, t683, t684, t685, t686, t687, t688⟩, A20, H⟩ := H
 replace H : ((codec_Longest.f k 8 false).bind fun bt690 => (if t674 = 0 then (if (t671.length : Int) = 50 then (if 12 ≤ (t671.length : Int) then ((magnetolaw06_ints.f k (t671.take 12) (([0, 0, 0, 0, 0, 1, 0, 0, 0, 0, 0, 1] : List Int))).bind fun t699 => (if t699 = true then (if 0 ≤ (wrap64 ((t671.length : Int) - 9)) then (if (wrap64 ((t671.length : Int) - 9)) < (t671.length : Int) then (if (rd t671 (wrap64 ((t671.length : Int) - 9))) = 0 then (if (t675 == 0 && (!t676 && (!t677 && (t678 == 0 && ((t679 == 0 && (t680 == 0 && (t681 == 0 && (t682 == 0 && (t683 == 0 && (t684 == 0 && (t685 == 0 && (t686 == 0))))))))))))) = true then (if t687 = (t671.length : Int) then (if t688 = 0 then (if bt690.1 = 132 then (some (bt690.2 == 0)) else (none)) else (none)) else (none)) else (none)) else (none)) else (none)) else (none)) else (none))) else (none)) else (none)) else (none))) = some r := H
 have A2 := Aside0.mk A20
 clear A20
 replace H := Option.bind_eq_some_iff.mp H
 obtain ⟨⟨t690, t691⟩, A30, H⟩ := H
 replace H : (if t674 = 0 then (if (t671.length : Int) = 50 then (if 12 ≤ (t671.length : Int) then ((magnetolaw06_ints.f k (t671.take 12) (([0, 0, 0, 0, 0, 1, 0, 0, 0, 0, 0, 1] : List Int))).bind fun t699 => (if t699 = true then (if 0 ≤ (wrap64 ((t671.length : Int) - 9)) then (if (wrap64 ((t671.length : Int) - 9)) < (t671.length : Int) then (if (rd t671 (wrap64 ((t671.length : Int) - 9))) = 0 then (if (t675 == 0 && (!t676 && (!t677 && (t678 == 0 && ((t679 == 0 && (t680 == 0 && (t681 == 0 && (t682 == 0 && (t683 == 0 && (t684 == 0 && (t685 == 0 && (t686 == 0))))))))))))) = true then (if t687 = (t671.length : Int) then (if t688 = 0 then (if t690 = 132 then (some (t691 == 0)) else (none)) else (none)) else (none)) else (none)) else (none)) else (none)) else (none)) else (none))) else (none)) else (none)) else (none)) = some r := H
 have A3 := Aside0.mk A30
 clear A30
 by_cases c4 : t674 = 0
 ·
  rw [if_pos c4] at H
  have c4b0 : (t674 == 0) = true := beq_iff_eq.mpr c4
  have c4b1 : (t674 != 0) = false := bne_eq_false_iff_eq.mpr c4
  clear c4
  by_cases c5 : (t671.length : Int) = 50
  ·
   rw [if_pos c5] at H
   have c5b0 : ((t671.length : Int) == 50) = true := beq_iff_eq.mpr c5
   have c5b1 : ((t671.length : Int) != 50) = false := bne_eq_false_iff_eq.mpr c5
   clear c5
   by_cases c6 : 12 ≤ (t671.length : Int)
   ·
    rw [if_pos c6] at H
    have c6b0 := eq_true c6
    have c6b1 : decide (12 ≤ (t671.length : Int)) = true := decide_eq_true c6
    clear c6
    obtain ⟨y692, hy692⟩ : ∃ y_ : List Int, y_ = (t671.take 12) := ⟨_, rfl⟩
    replace H : ((magnetolaw06_ints.f k y692 (([0, 0, 0, 0, 0, 1, 0, 0, 0, 0, 0, 1] : List Int))).bind fun t699 => (if t699 = true then (if 0 ≤ (wrap64 ((t671.length : Int) - 9)) then (if (wrap64 ((t671.length : Int) - 9)) < (t671.length : Int) then (if (rd t671 (wrap64 ((t671.length : Int) - 9))) = 0 then (if (t675 == 0 && (!t676 && (!t677 && (t678 == 0 && ((t679 == 0 && (t680 == 0 && (t681 == 0 && (t682 == 0 && (t683 == 0 && (t684 == 0 && (t685 == 0 && (t686 == 0))))))))))))) = true then (if t687 = (t671.length : Int) then (if t688 = 0 then (if t690 = 132 then (some (t691 == 0)) else (none)) else (none)) else (none)) else (none)) else (none)) else (none)) else (none)) else (none))) = some r := by first | (rw [hy692]; with_reducible exact H) | (have H2_ := (Option.bind_some _ _).symm.trans H; rw [hy692]; with_reducible exact H2_) | (have H2_ := (Option.bind_some _ _).symm.trans H; with_reducible exact H2_) | with_reducible exact H | (rw [hy692]; exact H) | exact H
    have Ny692 := Aside0.mk hy692
    clear hy692
    obtain ⟨y696, hy696⟩ : ∃ y_ : List Int, y_ = (([0, 0, 0, 0, 0, 1, 0, 0, 0, 0, 0, 1] : List Int)) := ⟨_, rfl⟩
    replace H : ((magnetolaw06_ints.f k y692 y696).bind fun t699 => (if t699 = true then (if 0 ≤ (wrap64 ((t671.length : Int) - 9)) then (if (wrap64 ((t671.length : Int) - 9)) < (t671.length : Int) then (if (rd t671 (wrap64 ((t671.length : Int) - 9))) = 0 then (if (t675 == 0 && (!t676 && (!t677 && (t678 == 0 && ((t679 == 0 && (t680 == 0 && (t681 == 0 && (t682 == 0 && (t683 == 0 && (t684 == 0 && (t685 == 0 && (t686 == 0))))))))))))) = true then (if t687 = (t671.length : Int) then (if t688 = 0 then (if t690 = 132 then (some (t691 == 0)) else (none)) else (none)) else (none)) else (none)) else (none)) else (none)) else (none)) else (none))) = some r := by first | (rw [hy696]; with_reducible exact H) | (have H2_ := (Option.bind_some _ _).symm.trans H; rw [hy696]; with_reducible exact H2_) | (have H2_ := (Option.bind_some _ _).symm.trans H; with_reducible exact H2_) | with_reducible exact H | (rw [hy696]; exact H) | exact H
    have Ny696 := Aside0.mk hy696
    clear hy696
    replace H := Option.bind_eq_some_iff.mp H
    obtain ⟨t699, A70, H⟩ := H
    replace H : (if t699 = true then (if 0 ≤ (wrap64 ((t671.length : Int) - 9)) then (if (wrap64 ((t671.length : Int) - 9)) < (t671.length : Int) then (if (rd t671 (wrap64 ((t671.length : Int) - 9))) = 0 then (if (t675 == 0 && (!t676 && (!t677 && (t678 == 0 && ((t679 == 0 && (t680 == 0 && (t681 == 0 && (t682 == 0 && (t683 == 0 && (t684 == 0 && (t685 == 0 && (t686 == 0))))))))))))) = true then (if t687 = (t671.length : Int) then (if t688 = 0 then (if t690 = 132 then (some (t691 == 0)) else (none)) else (none)) else (none)) else (none)) else (none)) else (none)) else (none)) else (none)) = some r := H
    have A7 := Aside0.mk A70
    clear A70
    by_cases c8 : t699 = true
    ·
     subst c8
     have H1 : (if 0 ≤ (wrap64 ((t671.length : Int) - 9)) then (if (wrap64 ((t671.length : Int) - 9)) < (t671.length : Int) then (if (rd t671 (wrap64 ((t671.length : Int) - 9))) = 0 then (if (t675 == 0 && (!t676 && (!t677 && (t678 == 0 && ((t679 == 0 && (t680 == 0 && (t681 == 0 && (t682 == 0 && (t683 == 0 && (t684 == 0 && (t685 == 0 && (t686 == 0))))))))))))) = true then (if t687 = (t671.length : Int) then (if t688 = 0 then (if t690 = 132 then (some (t691 == 0)) else (none)) else (none)) else (none)) else (none)) else (none)) else (none)) else (none)) = some r := by rw [if_pos rfl] at H; exact H
     clear H
     have H := H1
     clear H1
     obtain ⟨ji9, hji9⟩ : ∃ j_ : Int, (wrap64 ((t671.length : Int) - 9)) = j_ := ⟨_, rfl⟩
     replace H : (if 0 ≤ (ji9) then (if (ji9) < (t671.length : Int) then (if (rd t671 (ji9)) = 0 then (if (t675 == 0 && (!t676 && (!t677 && (t678 == 0 && ((t679 == 0 && (t680 == 0 && (t681 == 0 && (t682 == 0 && (t683 == 0 && (t684 == 0 && (t685 == 0 && (t686 == 0))))))))))))) = true then (if t687 = (t671.length : Int) then (if t688 = 0 then (if t690 = 132 then (some (t691 == 0)) else (none)) else (none)) else (none)) else (none)) else (none)) else (none)) else (none)) = some r := by first | (rw [hji9] at H; exact H) | (simp only [hji9] at H ⊢; exact H)
     (try rw [hji9] at A1)
     (try rw [hji9] at A2)
     (try rw [hji9] at A3)
     (try rw [hji9] at A7)
     have hji9w : (IntKind.i64.wrap ((t671.length : Int) - 9)) = ji9 := (i64_w _).trans hji9
     by_cases c10 : 0 ≤ (ji9)
     ·
      rw [if_pos c10] at H
      have c10b0 : decide (0 ≤ (ji9)) = true := decide_eq_true c10
      clear c10
      by_cases c11 : (ji9) < (t671.length : Int)
      ·
       rw [if_pos c11] at H
       have c11b0 : decide ((ji9) < (t671.length : Int)) = true := decide_eq_true c11
       clear c11
       by_cases c12 : (rd t671 (ji9)) = 0
       ·
        rw [if_pos c12] at H
        have c12b0 : ((rd t671 (ji9)) == 0) = true := beq_iff_eq.mpr c12
        have c12b1 : ((rd t671 (ji9)) != 0) = false := bne_eq_false_iff_eq.mpr c12
        clear c12
        by_cases c13 : (t675 == 0 && (!t676 && (!t677 && (t678 == 0 && ((t679 == 0 && (t680 == 0 && (t681 == 0 && (t682 == 0 && (t683 == 0 && (t684 == 0 && (t685 == 0 && (t686 == 0))))))))))))) = true
        ·
         rw [if_pos c13] at H
         have c13b0 : (t675 == 0 && (!t676 && (!t677 && (t678 == 0 && ((t679 == 0 && (t680 == 0 && (t681 == 0 && (t682 == 0 && (t683 == 0 && (t684 == 0 && (t685 == 0 && (t686 == 0))))))))))))) = true := c13
         (try (have c13b1 : decide (t675 = 0 && (!t676 && (!t677 && (t678 == 0 && ((t679 == 0 && (t680 == 0 && (t681 == 0 && (t682 == 0 && (t683 == 0 && (t684 == 0 && (t685 == 0 && (t686 == 0))))))))))))) = true := by simpa using c13))
         (try (have c13b2 : (t675 == 0 && (!t676 && (!t677 && (t678 == 0 && ((t679 == 0 && (t680 == 0 && (t681 == 0 && (t682 == 0 && (t683 == 0 && (t684 == 0 && (t685 == 0 && (t686 == 0))))))))))))) = true := by simpa using c13))
         clear c13
         by_cases c14 : t687 = (t671.length : Int)
         ·
          rw [if_pos c14] at H
          have c14b0 : (t687 == (t671.length : Int)) = true := beq_iff_eq.mpr c14
          have c14b1 : (t687 != (t671.length : Int)) = false := bne_eq_false_iff_eq.mpr c14
          clear c14
          by_cases c15 : t688 = 0
          ·
           rw [if_pos c15] at H
           have c15b0 : (t688 == 0) = true := beq_iff_eq.mpr c15
           have c15b1 : (t688 != 0) = false := bne_eq_false_iff_eq.mpr c15
           clear c15
           by_cases c16 : t690 = 132
           ·
            rw [if_pos c16] at H
            have c16b0 : (t690 == 132) = true := beq_iff_eq.mpr c16
            have c16b1 : (t690 != 132) = false := bne_eq_false_iff_eq.mpr c16
            clear c16
            obtain rfl := Option.some.inj H
            go_enter Try.func34, Try.ntmps34
            go_wp2_with (first | ((with_reducible refine zqal (f := 37) rfl ?_); refine goesL_ (some 10) rfl rfl Try.func37 (by kernel_rfl) rfl #[.agg #[.int .i64 0, .bool false, .bool false, .int .i64 0, .int .u8 0, .int .u8 0, .int .u8 0, .int .u8 0, .int .u8 0, .int .u8 0, .int .u8 0, .int .u8 0], .bool true] rfl (by (try simp only [List.map_toArray, List.map_cons, List.map_nil]); first | done | rfl | (simp only [List.length_drop, List.length_take]; rfl)) ?_; (with_reducible refine (codec_Encode.calls k 0 false false 0 0 0 0 0 0 0 0 0 true t671 t674 _ A1.out).mono ?_); rintro e w17 ⟨v672, rfl, ho0, hb⟩; refine ⟨_, rfl, ?_⟩; have n0_ := Aside0.mk (Kd.R_lower ho0 (zqaj (by repeat (with_reducible first | exact HB.out | apply zqad | apply zqac | apply zqae)))); have n1_ := Aside0.mk (zqak (by repeat (with_reducible first | exact HB.out | apply zqad | apply zqac | apply zqae)) hb); clear HB; have HO673 := n0_; have HB := n1_; clear n0_ n1_; (try clear hb); (try clear hb2); (try clear hk); (try clear hi); (try clear ho0); obtain ⟨Ao18, co18, eo18⟩ := Kd.R_slice HO673.out; subst eo18) | ((with_reducible refine zqal (f := 35) rfl ?_); refine goesL_ (some 15) rfl rfl Try.func35 (by kernel_rfl) rfl #[.slice Ao18 t671.length co18] rfl (by (try simp only [List.map_toArray, List.map_cons, List.map_nil]); first | done | rfl | (simp only [List.length_drop, List.length_take]; rfl)) ?_; (with_reducible refine (codec_Decode.calls _ _ t671 t675 t676 t677 t678 t679 t680 t681 t682 t683 t684 t685 t686 t687 t688 _ ?side1 ?side2 A2.out).mono ?_); (case side1 => repeat (first | exact (Kd.R_reads' HO673.out).2.2 | (with_reducible refine Kd.C_alloc ?_ _) | (with_reducible refine Kd.C_drewN ?_ _) | (with_reducible refine Kd.C_drew ?_))); (case side2 => exact (Kd.R_reads' HO673.out).2.1); rintro e w19 ⟨rfl, hb⟩; refine ⟨_, rfl, ?_⟩; have n0_ := Aside0.mk (Kd.R_below (by (with_reducible repeat (first | apply Kd.R_alloc | apply Kd.R_drewN | apply Kd.R_drew)); exact HO673.out) hb); have n1_ := Aside0.mk (zqak (by repeat (with_reducible first | exact HB.out | apply zqad | apply zqac | apply zqae)) hb); clear HO673; clear HB; have HO673 := n0_; have HB := n1_; clear n0_ n1_; (try clear hb); (try clear hb2); (try clear hk); (try clear hi)) | ((with_reducible refine zqar (N := 3) rfl ?_); (try (refine gate_guard (by rfl) ?_; dsimp only)); refine zqav ?hg (N := 3) ?hd (cs := #[.int .i64 0, .bool false, .bool false, .int .i64 0, .int .u8 0, .int .u8 0, .int .u8 0, .int .u8 0, .int .u8 0, .int .u8 0, .int .u8 0, .int .u8 0]) (t := 24) ?hr ?_; (case hd => rfl); (case hg => rfl); (case hr => first | (go_simp; done) | (go_simp; rfl)); intro gb689 hg w20 hbox hb; have n0_ := Aside0.mk (Kd.R_below (by (with_reducible repeat (first | apply Kd.R_alloc | apply Kd.R_drewN | apply Kd.R_drew)); exact HO673.out) hb); have n1_ := Aside0.mk (zqak (by repeat (with_reducible first | exact HB.out | apply zqad | apply zqac | apply zqae)) hb); have n2_ := Aside0.mk (hbox); have n3_ := Aside0.mk ((by rw [hg]; exact (zqaj (by repeat (with_reducible first | exact HB.out | apply zqad | apply zqac | apply zqae))) : w.heap.size ≤ gb689)); have n4_ := Aside0.mk ((by rw [hg]; exact (zqaj (by repeat (with_reducible first | exact HB.out | apply zqad | apply zqac | apply zqae))) : w.heap.size ≤ gb689)); clear HO673; clear HB; have HO673 := n0_; have HB := n1_; have BK689 := n2_; have GW689 := n3_; have GE689 := n4_; clear n0_ n1_ n2_ n3_ n4_; clear hb hbox hg; have hcz21_0 : w20.cell? ⟨gb689, 0, none⟩ = some (.int .i64 0) := (zqab BK689.out 0).trans rfl; have hcz21_1 : w20.cell? ⟨gb689, 1, none⟩ = some (.bool false) := (zqab BK689.out 1).trans rfl; have hcz21_2 : w20.cell? ⟨gb689, 2, none⟩ = some (.bool false) := (zqab BK689.out 2).trans rfl; have hcz21_3 : w20.cell? ⟨gb689, 3, none⟩ = some (.int .i64 0) := (zqab BK689.out 3).trans rfl; have hcz21_4 : w20.cell? ⟨gb689, 4, none⟩ = some (.int .u8 0) := (zqab BK689.out 4).trans rfl; have hcz21_5 : w20.cell? ⟨gb689, 5, none⟩ = some (.int .u8 0) := (zqab BK689.out 5).trans rfl; have hcz21_6 : w20.cell? ⟨gb689, 6, none⟩ = some (.int .u8 0) := (zqab BK689.out 6).trans rfl; have hcz21_7 : w20.cell? ⟨gb689, 7, none⟩ = some (.int .u8 0) := (zqab BK689.out 7).trans rfl; have hcz21_8 : w20.cell? ⟨gb689, 8, none⟩ = some (.int .u8 0) := (zqab BK689.out 8).trans rfl; have hcz21_9 : w20.cell? ⟨gb689, 9, none⟩ = some (.int .u8 0) := (zqab BK689.out 9).trans rfl; have hcz21_10 : w20.cell? ⟨gb689, 10, none⟩ = some (.int .u8 0) := (zqab BK689.out 10).trans rfl; have hcz21_11 : w20.cell? ⟨gb689, 11, none⟩ = some (.int .u8 0) := (zqab BK689.out 11).trans rfl; have hfz21_0 := zqaa BK689.out 0; have hfz21_1 := zqaa BK689.out 1; have hfz21_2 := zqaa BK689.out 2; have hfz21_3 := zqaa BK689.out 3; have hfz21_4 := zqaa BK689.out 4; have hfz21_5 := zqaa BK689.out 5; have hfz21_6 := zqaa BK689.out 6; have hfz21_7 := zqaa BK689.out 7; have hfz21_8 := zqaa BK689.out 8; have hfz21_9 := zqaa BK689.out 9; have hfz21_10 := zqaa BK689.out 10; have hfz21_11 := zqaa BK689.out 11) | ((with_reducible refine zqau (t := 24) (p := 3) rfl ?_); refine zqap (t := 24) (p := 3) (v := ?vo_w22) (w1 := ((((((((((((w20.setCell ⟨gb689, 0, none⟩ (.int .i64 t675)).setCell ⟨gb689, 1, none⟩ (.bool t676)).setCell ⟨gb689, 2, none⟩ (.bool t677)).setCell ⟨gb689, 3, none⟩ (.int .i64 t678)).setCell ⟨gb689, 4, none⟩ (.int .u8 t679)).setCell ⟨gb689, 5, none⟩ (.int .u8 t680)).setCell ⟨gb689, 6, none⟩ (.int .u8 t681)).setCell ⟨gb689, 7, none⟩ (.int .u8 t682)).setCell ⟨gb689, 8, none⟩ (.int .u8 t683)).setCell ⟨gb689, 9, none⟩ (.int .u8 t684)).setCell ⟨gb689, 10, none⟩ (.int .u8 t685)).setCell ⟨gb689, 11, none⟩ (.int .u8 t686))) ?hg ?ho ?hn ?hr ?_; (case ho => rfl); (case hg => rfl); (case hn => rfl); (case hr => first | (go_simp; done) | (go_simp; rfl)); intro w22 hw; have n0_ : Aside0 (Kd.R (Kd.int .i64) 3 w22 w.heap.size (fun _ => True) (.slice Ao18 t671.length co18) t671) := ⟨(by rw [hw]; exact (by (with_reducible repeat (first | apply Kd.R_alloc | apply Kd.R_drewN | apply Kd.R_drew)); exact Kd.R_mono (Kd.R_far (p := ⟨gb689, 11, none⟩) (Kd.R_far (p := ⟨gb689, 10, none⟩) (Kd.R_far (p := ⟨gb689, 9, none⟩) (Kd.R_far (p := ⟨gb689, 8, none⟩) (Kd.R_far (p := ⟨gb689, 7, none⟩) (Kd.R_far (p := ⟨gb689, 6, none⟩) (Kd.R_far (p := ⟨gb689, 5, none⟩) (Kd.R_far (p := ⟨gb689, 4, none⟩) (Kd.R_far (p := ⟨gb689, 3, none⟩) (Kd.R_far (p := ⟨gb689, 2, none⟩) (Kd.R_far (p := ⟨gb689, 1, none⟩) (Kd.R_far (p := ⟨gb689, 0, none⟩) (Kd.R_types HO673.out BK689.out (by decide)) (fun _ hk => hk.2) (.int .i64 t675)) (fun _ hk => hk.2) (.bool t676)) (fun _ hk => hk.2) (.bool t677)) (fun _ hk => hk.2) (.int .i64 t678)) (fun _ hk => hk.2) (.int .u8 t679)) (fun _ hk => hk.2) (.int .u8 t680)) (fun _ hk => hk.2) (.int .u8 t681)) (fun _ hk => hk.2) (.int .u8 t682)) (fun _ hk => hk.2) (.int .u8 t683)) (fun _ hk => hk.2) (.int .u8 t684)) (fun _ hk => hk.2) (.int .u8 t685)) (fun _ hk => hk.2) (.int .u8 t686)) (fun _ hk => trivial)))⟩; have n1_ : Aside0 (w22.heap[gb689]? = some (.cells #[.int .i64 t675, .bool t676, .bool t677, .int .i64 t678, .int .u8 t679, .int .u8 t680, .int .u8 t681, .int .u8 t682, .int .u8 t683, .int .u8 t684, .int .u8 t685, .int .u8 t686] 24 (0, 0))) := ⟨(by rw [hw]; exact (by (with_reducible repeat (first | refine zqag ?_ _ | refine zqai ?_ | refine zqaf ?_ _)); refine zqan (cs := #[.int .i64 t675, .bool t676, .bool t677, .int .i64 t678, .int .u8 t679, .int .u8 t680, .int .u8 t681, .int .u8 t682, .int .u8 t683, .int .u8 t684, .int .u8 t685, .int .u8 0]) ?_ 11 _ rfl; (with_reducible repeat (first | refine zqag ?_ _ | refine zqai ?_ | refine zqaf ?_ _)); refine zqan (cs := #[.int .i64 t675, .bool t676, .bool t677, .int .i64 t678, .int .u8 t679, .int .u8 t680, .int .u8 t681, .int .u8 t682, .int .u8 t683, .int .u8 t684, .int .u8 0, .int .u8 0]) ?_ 10 _ rfl; (with_reducible repeat (first | refine zqag ?_ _ | refine zqai ?_ | refine zqaf ?_ _)); refine zqan (cs := #[.int .i64 t675, .bool t676, .bool t677, .int .i64 t678, .int .u8 t679, .int .u8 t680, .int .u8 t681, .int .u8 t682, .int .u8 t683, .int .u8 0, .int .u8 0, .int .u8 0]) ?_ 9 _ rfl; (with_reducible repeat (first | refine zqag ?_ _ | refine zqai ?_ | refine zqaf ?_ _)); refine zqan (cs := #[.int .i64 t675, .bool t676, .bool t677, .int .i64 t678, .int .u8 t679, .int .u8 t680, .int .u8 t681, .int .u8 t682, .int .u8 0, .int .u8 0, .int .u8 0, .int .u8 0]) ?_ 8 _ rfl; (with_reducible repeat (first | refine zqag ?_ _ | refine zqai ?_ | refine zqaf ?_ _)); refine zqan (cs := #[.int .i64 t675, .bool t676, .bool t677, .int .i64 t678, .int .u8 t679, .int .u8 t680, .int .u8 t681, .int .u8 0, .int .u8 0, .int .u8 0, .int .u8 0, .int .u8 0]) ?_ 7 _ rfl; (with_reducible repeat (first | refine zqag ?_ _ | refine zqai ?_ | refine zqaf ?_ _)); refine zqan (cs := #[.int .i64 t675, .bool t676, .bool t677, .int .i64 t678, .int .u8 t679, .int .u8 t680, .int .u8 0, .int .u8 0, .int .u8 0, .int .u8 0, .int .u8 0, .int .u8 0]) ?_ 6 _ rfl; (with_reducible repeat (first | refine zqag ?_ _ | refine zqai ?_ | refine zqaf ?_ _)); refine zqan (cs := #[.int .i64 t675, .bool t676, .bool t677, .int .i64 t678, .int .u8 t679, .int .u8 0, .int .u8 0, .int .u8 0, .int .u8 0, .int .u8 0, .int .u8 0, .int .u8 0]) ?_ 5 _ rfl; (with_reducible repeat (first | refine zqag ?_ _ | refine zqai ?_ | refine zqaf ?_ _)); refine zqan (cs := #[.int .i64 t675, .bool t676, .bool t677, .int .i64 t678, .int .u8 0, .int .u8 0, .int .u8 0, .int .u8 0, .int .u8 0, .int .u8 0, .int .u8 0, .int .u8 0]) ?_ 4 _ rfl; (with_reducible repeat (first | refine zqag ?_ _ | refine zqai ?_ | refine zqaf ?_ _)); refine zqan (cs := #[.int .i64 t675, .bool t676, .bool t677, .int .i64 0, .int .u8 0, .int .u8 0, .int .u8 0, .int .u8 0, .int .u8 0, .int .u8 0, .int .u8 0, .int .u8 0]) ?_ 3 _ rfl; (with_reducible repeat (first | refine zqag ?_ _ | refine zqai ?_ | refine zqaf ?_ _)); refine zqan (cs := #[.int .i64 t675, .bool t676, .bool false, .int .i64 0, .int .u8 0, .int .u8 0, .int .u8 0, .int .u8 0, .int .u8 0, .int .u8 0, .int .u8 0, .int .u8 0]) ?_ 2 _ rfl; (with_reducible repeat (first | refine zqag ?_ _ | refine zqai ?_ | refine zqaf ?_ _)); refine zqan (cs := #[.int .i64 t675, .bool false, .bool false, .int .i64 0, .int .u8 0, .int .u8 0, .int .u8 0, .int .u8 0, .int .u8 0, .int .u8 0, .int .u8 0, .int .u8 0]) ?_ 1 _ rfl; (with_reducible repeat (first | refine zqag ?_ _ | refine zqai ?_ | refine zqaf ?_ _)); refine zqan (cs := #[.int .i64 0, .bool false, .bool false, .int .i64 0, .int .u8 0, .int .u8 0, .int .u8 0, .int .u8 0, .int .u8 0, .int .u8 0, .int .u8 0, .int .u8 0]) ?_ 0 _ rfl; (with_reducible repeat (first | refine zqag ?_ _ | refine zqai ?_ | refine zqaf ?_ _)); exact BK689.out))⟩; have n2_ : Aside0 (Below w.heap.size w w22) := ⟨(by rw [hw]; exact (by repeat (with_reducible first | exact HB.out | apply zqad | apply zqac | apply zqae | refine zqah ?_ GE689.out)))⟩; clear hw; clear HO673; clear BK689; clear HB; have HO673 := n0_; have BK689 := n1_; have HB := n2_; clear n0_ n1_ n2_) | ((with_reducible refine zqal (f := 39) rfl ?_); refine goesL_ (some 20) rfl rfl Try.func39 (by kernel_rfl) rfl #[.int .i64 8, .bool false] rfl (by (try simp only [List.map_toArray, List.map_cons, List.map_nil]); first | done | rfl | (simp only [List.length_drop, List.length_take]; rfl)) ?_; (with_reducible refine (codec_Longest.calls k 8 false t690 t691 _ A3.out).mono ?_); rintro e w' ⟨rfl, ⟨nd, rfl⟩⟩; refine ⟨_, rfl, ?_⟩; have q23 : (12 : Int) ≤ ((t671.length : Int) : Int) := of_decide_eq_true (by first | (with_reducible assumption) | assumption); obtain ⟨i023, hi023, _, hsz23, _⟩ := info_parts info3; have hroom23 : t671.length ≤ co18 := (Kd.R_reads' HO673.out).2.1; have hC23 : Kd.C (Kd.int .i64) _ Ao18 t671.length t671 := (Kd.R_reads' HO673.out).2.2; have hcut23 := cut_to (P := Try.prog) 25 3 .i64 Try.underlying25 hi023 Ao18 t671.length co18 12 (by omega) q23 hroom23; have hr23 := Kd.C_take (m := 12) hC23 (by omega); have hy23 : y692.length = (12 : Int).toNat := (by rw [Ny692.out, List.length_take]; omega); rw [← Ny692.out] at hr23; rw [← hy23] at hcut23; have HR695 := Aside0.mk hr23; have HC695 := Aside0.mk (show y692.length ≤ co18 from by omega); clear hr23 hC23 hroom23 hi023 hsz23; have KY23 := Aside0.mk hy23; clear hy23; have KL23 := Aside0.mk (show 12 ≤ t671.length from by omega); replace q23 := eq_true q23) | ((with_reducible refine zqar (N := 33) rfl ?_); (try (refine gate_guard (by rfl) ?_; dsimp only)); refine Kd.R_lit (Kd.int .i64) _ 3 ?hg (N := 33) ?hd (xs := ([0, 0, 0, 0, 0, 1, 0, 0, 0, 0, 0, 1] : List Int)) (inner := [.int .i64 0, .int .i64 0, .int .i64 0, .int .i64 0, .int .i64 0, .int .i64 1, .int .i64 0, .int .i64 0, .int .i64 0, .int .i64 0, .int .i64 0, .int .i64 1]) (ok := fun _ => True) (okp := fun _ => True) ?hr ?hp (fun _ hk => hk) trivial (Below.refl _ _) (Nat.le_refl _) (by simp) ?_; (case hd => rfl); (case hg => rfl); (case hr => first | (go_simp; done) | (go_simp; rfl)); (case hp => exact (Reps.one (show Kd.M (Kd.int .i64) _ _ _ 0 [.int .i64 0] from rfl) (Reps.one (show Kd.M (Kd.int .i64) _ _ _ 0 [.int .i64 0] from rfl) (Reps.one (show Kd.M (Kd.int .i64) _ _ _ 0 [.int .i64 0] from rfl) (Reps.one (show Kd.M (Kd.int .i64) _ _ _ 0 [.int .i64 0] from rfl) (Reps.one (show Kd.M (Kd.int .i64) _ _ _ 0 [.int .i64 0] from rfl) (Reps.one (show Kd.M (Kd.int .i64) _ _ _ 1 [.int .i64 1] from rfl) (Reps.one (show Kd.M (Kd.int .i64) _ _ _ 0 [.int .i64 0] from rfl) (Reps.one (show Kd.M (Kd.int .i64) _ _ _ 0 [.int .i64 0] from rfl) (Reps.one (show Kd.M (Kd.int .i64) _ _ _ 0 [.int .i64 0] from rfl) (Reps.one (show Kd.M (Kd.int .i64) _ _ _ 0 [.int .i64 0] from rfl) (Reps.one (show Kd.M (Kd.int .i64) _ _ _ 0 [.int .i64 0] from rfl) (Reps.one (show Kd.M (Kd.int .i64) _ _ _ 1 [.int .i64 1] from rfl) (Reps.none _ _)))))))))))))); intro v697 w24 ho25 hb hg_ hnew_; clear hg_ hnew_; (first | rw [← Ny696.out] at ho25 | (simp only [Int.reduceToNat] at ho25; rw [← Ny696.out] at ho25)); have n0_ := Aside0.mk (Kd.R_elder' (by (with_reducible repeat (first | apply Kd.R_alloc | apply Kd.R_drewN | apply Kd.R_drew)); exact HO673.out) (Kd.R_base ho25) hb); have n1_ := Aside0.mk (Kd.R_lower (Kd.R_new' ho25 (Kd.R_lt (by (with_reducible repeat (first | apply Kd.R_alloc | apply Kd.R_drewN | apply Kd.R_drew)); exact HO673.out))) (zqaj (by repeat (with_reducible first | exact HB.out | apply zqad | apply zqac | apply zqae | refine zqah ?_ GE689.out)))); have n2_ := Aside0.mk (zqam (g := gb689) (o := .cells #[.int .i64 t675, .bool t676, .bool t677, .int .i64 t678, .int .u8 t679, .int .u8 t680, .int .u8 t681, .int .u8 t682, .int .u8 t683, .int .u8 t684, .int .u8 t685, .int .u8 t686] 24 (0, 0)) (by (with_reducible repeat (first | refine zqag ?_ _ | refine zqai ?_ | refine zqaf ?_ _)); exact BK689.out) hb); have n3_ := Aside0.mk (Kd.C_below (by repeat (first | (with_reducible exact HR695.out) | (with_reducible refine Kd.C_alloc ?_ _) | (with_reducible refine Kd.C_drewN ?_ _) | (with_reducible refine Kd.C_drew ?_) | exact HR695.out)) hb); have n4_ := Aside0.mk (zqak (by repeat (with_reducible first | exact HB.out | apply zqad | apply zqac | apply zqae | refine zqah ?_ GE689.out)) hb); clear HO673; clear BK689; clear HR695; clear HB; have HO673 := n0_; have HO698 := n1_; have BK689 := n2_; have HR695 := n3_; have HB := n4_; clear n0_ n1_ n2_ n3_ n4_; clear hb ho25; obtain ⟨Ao26, co26, eo26⟩ := Kd.R_slice HO698.out; subst eo26) | (go_at_call 40; (with_reducible refine (magnetolaw06_ints.calls k _ _ y692 _ _ y696 true _ ?side1 ?side2 ?side3 ?side4 A7.out).mono ?_); (case side1 => repeat (first | exact (by repeat (first | (with_reducible exact HR695.out) | (with_reducible refine Kd.C_alloc ?_ _) | (with_reducible refine Kd.C_drewN ?_ _) | (with_reducible refine Kd.C_drew ?_) | exact HR695.out)) | (with_reducible refine Kd.C_alloc ?_ _) | (with_reducible refine Kd.C_drewN ?_ _) | (with_reducible refine Kd.C_drew ?_))); (case side2 => exact HC695.out); (case side3 => repeat (first | exact (Kd.R_reads' HO698.out).2.2 | (with_reducible refine Kd.C_alloc ?_ _) | (with_reducible refine Kd.C_drewN ?_ _) | (with_reducible refine Kd.C_drew ?_))); (case side4 => exact (Kd.R_reads' HO698.out).2.1); rintro e w' ⟨rfl, ⟨nd, rfl⟩⟩; have p700 : 0 ≤ ((ji9) : Int) := of_decide_eq_true (by first | (with_reducible assumption) | assumption); have q700 : (ji9) < (t671.length : Int) := of_decide_eq_true (by first | (with_reducible assumption) | assumption); obtain ⟨ad700, e700, hx700_0⟩ := Kd.at_int (Kd.R_reads' HO673.out).2.2 (ji9) p700 q700; cases e700; replace p700 := eq_true p700; replace q700 := eq_true q700; have hcz27_0 : w24.cell? ⟨gb689, 0, none⟩ = some (.int .i64 t675) := (zqab BK689.out 0).trans rfl; have hcz27_1 : w24.cell? ⟨gb689, 1, none⟩ = some (.bool t676) := (zqab BK689.out 1).trans rfl; have hcz27_2 : w24.cell? ⟨gb689, 2, none⟩ = some (.bool t677) := (zqab BK689.out 2).trans rfl; have hcz27_3 : w24.cell? ⟨gb689, 3, none⟩ = some (.int .i64 t678) := (zqab BK689.out 3).trans rfl; have hcz27_4 : w24.cell? ⟨gb689, 4, none⟩ = some (.int .u8 t679) := (zqab BK689.out 4).trans rfl; have hcz27_5 : w24.cell? ⟨gb689, 5, none⟩ = some (.int .u8 t680) := (zqab BK689.out 5).trans rfl; have hcz27_6 : w24.cell? ⟨gb689, 6, none⟩ = some (.int .u8 t681) := (zqab BK689.out 6).trans rfl; have hcz27_7 : w24.cell? ⟨gb689, 7, none⟩ = some (.int .u8 t682) := (zqab BK689.out 7).trans rfl; have hcz27_8 : w24.cell? ⟨gb689, 8, none⟩ = some (.int .u8 t683) := (zqab BK689.out 8).trans rfl; have hcz27_9 : w24.cell? ⟨gb689, 9, none⟩ = some (.int .u8 t684) := (zqab BK689.out 9).trans rfl; have hcz27_10 : w24.cell? ⟨gb689, 10, none⟩ = some (.int .u8 t685) := (zqab BK689.out 10).trans rfl; have hcz27_11 : w24.cell? ⟨gb689, 11, none⟩ = some (.int .u8 t686) := (zqab BK689.out 11).trans rfl; have hfz27_0 := zqaa BK689.out 0; have hfz27_1 := zqaa BK689.out 1; have hfz27_2 := zqaa BK689.out 2; have hfz27_3 := zqaa BK689.out 3; have hfz27_4 := zqaa BK689.out 4; have hfz27_5 := zqaa BK689.out 5; have hfz27_6 := zqaa BK689.out 6; have hfz27_7 := zqaa BK689.out 7; have hfz27_8 := zqaa BK689.out 8; have hfz27_9 := zqaa BK689.out 9; have hfz27_10 := zqaa BK689.out 10; have hfz27_11 := zqaa BK689.out 11))
            go_ret
            exact ⟨by first | rfl | (simp [errW_none, errW_some] <;> rfl) | (simp only [← hji9]; first | rfl | (simp [errW_none, errW_some] <;> rfl)) | (simp [*, errW_none, errW_some] <;> rfl), by repeat (with_reducible first | exact HB.out | apply zqad | apply zqac | apply zqae | refine zqah ?_ GE689.out)⟩
           ·
            rw [if_neg c16] at H
            exact absurd H (by simp)
          ·
           rw [if_neg c15] at H
           exact absurd H (by simp)
         ·
          rw [if_neg c14] at H
          exact absurd H (by simp)
        ·
         rw [if_neg c13] at H
         exact absurd H (by simp)
       ·
        rw [if_neg c12] at H
        exact absurd H (by simp)
      ·
       rw [if_neg c11] at H
       exact absurd H (by simp)
     ·
      rw [if_neg c10] at H
      exact absurd H (by simp)
    ·
     replace c8 := Bool.eq_false_iff.mpr c8
     subst c8
     have H1 : (none) = some r := by rw [if_neg (show ¬ (false = true) by decide)] at H; exact H
     clear H
     have H := H1
     clear H1
     exact absurd H (by simp)
   ·
    rw [if_neg c6] at H
    exact absurd H (by simp)
  ·
   rw [if_neg c5] at H
   exact absurd H (by simp)
 ·
  rw [if_neg c4] at H
  exact absurd H (by simp)

-- NOT PRINTED: function 36 (magnetoref06_Decode)

-- NOT PRINTED: function 9 (magnetolaw06_CodecDecodes)

-- NOT PRINTED: function 10 (magnetolaw06_CodecBack)

end Go.Proofs.Ytakemodmdhglnaa.PA
