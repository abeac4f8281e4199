/- Functions of the program, in plain Lean, and their walks (printed; half the indent). Conditions: none. -/
-- PRINTED by print.py (a twelfth state) out of the translation. Not trusted: Lean checks it.
import Derived.Test.YtipflkbpjnacnaaPAx0
import Derived.Test.YtipflkbpjnacnaaPAx1
import Derived.Test.YtipflkbpjnacnaaPAx7
import Derived.Test.YtipflkbpjnacnaaPAx8
namespace Go.Proofs.Ytipflkbpjnacnaa.PA
open Go.RowKit Go.Proofs.YtipflkbpjnacnaaW.PrintWords Go.Proofs.YtipflkbpjnacnaaW.PrintLast Go.Proofs.YtipflkbpjnacnaaW.PrintMore
attribute [local go_sem] max2_int min2_int max_two min_two max_three min_three max_four min_four   -- for this text's walks alone
set_option linter.unusedVariables false
set_option linter.unusedSimpArgs false

/-! ### magnetoref01_Text: function 33 -/
def magnetoref01_Text.l0 : Nat → List Int → ByteArray → Int → Option (ByteArray)
 | 0, _, _, _ => none
 | k + 1, x0, x3, x4 => if x4 < (x0.length : Int) then (if 0 ≤ x4 then (if (rd x0 x4) = 0 then (if x3.size + 1 ≤ 9223372036854775807 then (magnetoref01_Text.l0 k x0 (x3 ++ (⟨#[48]⟩ : ByteArray)) (wrap64 (x4 + 1))) else (none)) else (if x3.size + 1 ≤ 9223372036854775807 then (magnetoref01_Text.l0 k x0 (x3 ++ (⟨#[49]⟩ : ByteArray)) (wrap64 (x4 + 1))) else (none))) else (none)) else (some x3)
def magnetoref01_Text.f (k : Nat) (l0 : List Int) : Option (ByteArray) := magnetoref01_Text.l0 k l0 (⟨#[]⟩ : ByteArray) 0
theorem magnetoref01_Text.mono_l : ∀ k, (∀ y0 y1 y2, LeO (magnetoref01_Text.l0 k y0 y1 y2) (magnetoref01_Text.l0 (k + 1) y0 y1 y2))
 | 0 => fun _ _ _ r h => by simp [magnetoref01_Text.l0] at h
 | k + 1 => by
  have ih0 := magnetoref01_Text.mono_l k
  ·
   intro y0 y1 y2
   unfold magnetoref01_Text.l0
   repeat' first
   | (with_reducible exact ih0 _ _ _)
   | (with_reducible exact LeO.refl _)
   | (with_reducible exact LeO.none _)
   | (with_reducible refine LeO.ite ?_ ?_)
   | (with_reducible refine LeO.bind ?_ (fun _ => ?_))
   | exact ih0 _ _ _
   | exact LeO.none _
   | refine LeO.ite ?_ ?_
   | refine LeO.bind ?_ (fun _ => ?_)
theorem magnetoref01_Text.mono : ∀ a0 k, LeO (magnetoref01_Text.f k a0) (magnetoref01_Text.f (k + 1) a0) := by
 intro a0 k
 have ih0 := magnetoref01_Text.mono_l k
 unfold magnetoref01_Text.f
 repeat' first
   | (with_reducible exact ih0 _ _ _)
   | (with_reducible exact LeO.refl _)
   | (with_reducible exact LeO.none _)
   | (with_reducible refine LeO.ite ?_ ?_)
   | (with_reducible refine LeO.bind ?_ (fun _ => ?_))
   | exact ih0 _ _ _
   | exact LeO.none _
   | refine LeO.ite ?_ ?_
   | refine LeO.bind ?_ (fun _ => ?_)
set_option maxHeartbeats 8000000 in
set_option maxRecDepth 100000 in
theorem magnetoref01_Text.calls (k : Nat) (A0 : Option Addr) (c0 : Nat) (l0 : List Int) (r : ByteArray) (w : World) (hr0 : Kd.C (Kd.int .i64) w A0 l0.length l0) (hc0 : l0.length ≤ c0) (h : magnetoref01_Text.f k l0 = some r) :
  Calls Try.prog 33 #[.slice A0 l0.length c0] w fun e w' => e = .returned (.string r) ∧ Drawn0 w w' := by
 have HR0 := Aside0.mk hr0
 have HC0 := Aside0.mk hc0
 clear hr0 hc0
 have H : (magnetoref01_Text.l0 k l0 (⟨#[]⟩ : ByteArray) 0) = some r := h
 clear h
 have H' := Aside0.mk H
 clear H
 go_enter Try.func33, Try.ntmps33
 go_wp2
 go_loopg [3, 4] k (fun kq v3 v4 w' => ∃ (x3_1 : ByteArray) (x4_1 : Int), v3 = .string x3_1 ∧ v4 = .int .i64 x4_1 ∧ Aside0 (magnetoref01_Text.l0 kq l0 x3_1 x4_1 = some r) ∧ Aside0 (kq ≤ k) ∧ Drawn0 w w')
 case atStart => exact ⟨((⟨#[]⟩ : ByteArray)), (0), (by first | rfl | (simp; done) | (simp [*]; done)), (by first | rfl | (simp; done) | (simp [*]; done)), H', ⟨Nat.le_refl _⟩, by repeat (first | exact Drawn0.refl _ | apply Drawn0.step)⟩
 case round =>
  clear H'
  obtain ⟨x3_1, x4_1, rfl, rfl, HA, HK1, ⟨m1, rfl⟩⟩ := hrel
  cases gk with
  | zero => exact absurd HA.out (by simp [magnetoref01_Text.l0])
  | succ k1 =>
   have H := HA.out
   clear HA
   simp only [magnetoref01_Text.l0] at H
   by_cases c2 : x4_1 < (l0.length : Int)
   ·
    rw [if_pos c2] at H
    have c2b0 : decide (x4_1 < (l0.length : Int)) = true := decide_eq_true c2
    clear c2
    by_cases c3 : 0 ≤ x4_1
    ·
     rw [if_pos c3] at H
     have c3b0 : decide (0 ≤ x4_1) = true := decide_eq_true c3
     clear c3
     by_cases c4 : (rd l0 x4_1) = 0
     ·
      rw [if_pos c4] at H
      have c4b0 : ((rd l0 x4_1) == 0) = true := beq_iff_eq.mpr c4
      have c4b1 : ((rd l0 x4_1) != 0) = false := bne_eq_false_iff_eq.mpr c4
      clear c4
      by_cases c5 : x3_1.size + 1 ≤ 9223372036854775807
      ·
       rw [if_pos c5] at H
       have c5b0 := eq_true c5
       have c5b1 : decide (x3_1.size + 1 ≤ 9223372036854775807) = true := decide_eq_true c5
       try have c5b2 : (9223372036854775807 < x3_1.size + 1) = False := eq_false (Nat.not_lt.2 c5)
       have H' := Aside0.mk H
       clear H
       have p265 : 0 ≤ (x4_1 : Int) := of_decide_eq_true (by first | (with_reducible assumption) | assumption)
       have q265 : x4_1 < (l0.length : Int) := of_decide_eq_true (by first | (with_reducible assumption) | assumption)
       obtain ⟨ad265, e265, hx265_0⟩ := Kd.at_int HR0.out x4_1 p265 q265
       cases e265
       replace p265 := eq_true p265
       replace q265 := eq_true q265
       go_wp2
       go_roundg k1
       case measure => have := HK1.out; omega
       case rel => exact ⟨(x3_1 ++ (⟨#[48]⟩ : ByteArray)), (wrap64 (x4_1 + 1)), (by first | rfl | (simp; done) | (simp [*]; done)), (by first | rfl | (simp; done) | (simp [*]; done)), H', ⟨by have := HK1.out; omega⟩, by repeat (first | exact Drawn0.refl _ | apply Drawn0.step)⟩
      ·
       rw [if_neg c5] at H
       exact absurd H (by simp)
     ·
      rw [if_neg c4] at H
      have c4b0 : ((rd l0 x4_1) == 0) = false := beq_eq_false_iff_ne.mpr c4
      have c4b1 : ((rd l0 x4_1) != 0) = true := bne_iff_ne.mpr c4
      by_cases c6 : x3_1.size + 1 ≤ 9223372036854775807
      ·
       rw [if_pos c6] at H
       have c6b0 := eq_true c6
       have c6b1 : decide (x3_1.size + 1 ≤ 9223372036854775807) = true := decide_eq_true c6
       try have c6b2 : (9223372036854775807 < x3_1.size + 1) = False := eq_false (Nat.not_lt.2 c6)
       have H' := Aside0.mk H
       clear H
       have p265 : 0 ≤ (x4_1 : Int) := of_decide_eq_true (by first | (with_reducible assumption) | assumption)
       have q265 : x4_1 < (l0.length : Int) := of_decide_eq_true (by first | (with_reducible assumption) | assumption)
       obtain ⟨ad265, e265, hx265_0⟩ := Kd.at_int HR0.out x4_1 p265 q265
       cases e265
       replace p265 := eq_true p265
       replace q265 := eq_true q265
       go_wp2
       go_roundg k1
       case measure => have := HK1.out; omega
       case rel => exact ⟨(x3_1 ++ (⟨#[49]⟩ : ByteArray)), (wrap64 (x4_1 + 1)), (by first | rfl | (simp; done) | (simp [*]; done)), (by first | rfl | (simp; done) | (simp [*]; done)), H', ⟨by have := HK1.out; omega⟩, by repeat (first | exact Drawn0.refl _ | apply Drawn0.step)⟩
      ·
       rw [if_neg c6] at H
       exact absurd H (by simp)
    ·
     rw [if_neg c3] at H
     exact absurd H (by simp)
   ·
    rw [if_neg c2] at H
    have c2b0 : decide (x4_1 < (l0.length : Int)) = false := decide_eq_false c2
    clear c2
    obtain rfl := Option.some.inj H
    go_wp2
    go_ret
    exact ⟨by first | rfl | (simp; done) | (simp [*]; done), by repeat (first | exact Drawn0.refl _ | apply Drawn0.step)⟩

/-! ### magnetolaw01_BitsTexts: function 5 -/
mutual
def magnetolaw01_BitsTexts.j0 : Nat → ByteArray → List Int → Bool → Option (Bool)
 | 0, _, _, _ => none
 | k + 1, x0, x1, x20 => if x20 = true then ((magnetolaw01_awake.f k).bind fun t266 => (some t266)) else ((magnetoref01_Check.f k x1).bind fun t267 => ((bits_Text.f k x1).bind fun bt268 => ((bits_Check.f x1).bind fun t271 => (if t271 = t267 then (if t267 ≥ 0 then (if bt268.1.toList = ([] : List UInt8) then (if bt268.2.1 = t267 then (if bt268.2.2 = 10 then (magnetolaw01_BitsTexts.j1 k x0) else (none)) else (none)) else (none)) else ((magnetoref01_Text.f k x1).bind fun t272 => (if bt268.1.toList = t272.toList then (if bt268.2.1 = 0 then (if bt268.2.2 = 0 then (magnetolaw01_BitsTexts.j1 k x0) else (none)) else (none)) else (none)))) else (none)))))
def magnetolaw01_BitsTexts.j1 : Nat → ByteArray → Option (Bool)
 | 0, _ => none
 | k + 1, x0 => (bits_Parse.f k x0).bind fun bt273 => (magnetolaw01_BitsTexts.l0 k x0 bt273.1 bt273.2.1 bt273.2.2 0)
def magnetolaw01_BitsTexts.l0 : Nat → ByteArray → List Int → Int → Int → Int → Option (Bool)
 | 0, _, _, _, _, _ => none
 | k + 1, x0, x9, x10, x11, x12 => if x12 < (x0.size : Int) then (if 0 ≤ x12 then (if (bt x0 x12) = 48 then (magnetolaw01_BitsTexts.l0 k x0 x9 x10 x11 (wrap64 (x12 + 1))) else (if (bt x0 x12) = 49 then (magnetolaw01_BitsTexts.l0 k x0 x9 x10 x11 (wrap64 (x12 + 1))) else (if (x9.length : Int) = 0 then (if x10 = x12 then (if x11 = 11 then ((magnetolaw01_awake.f k).bind fun t278 => (some t278)) else (none)) else (none)) else (none)))) else (none)) else ((magnetoref01_Check.f k x9).bind fun t279 => (if t279 = (-1) then ((magnetoref01_Text.f k x9).bind fun t280 => (if t280.toList = x0.toList then (if x10 = 0 then (if x11 = 0 then ((magnetolaw01_awake.f k).bind fun t281 => (some t281)) else (none)) else (none)) else (none))) else (none)))
end
def magnetolaw01_BitsTexts.f (k : Nat) (a0 : ByteArray) (l1 : List Int) : Option (Bool) := if (a0.size : Int) > 300 then (magnetolaw01_BitsTexts.j0 k a0 l1 true) else (magnetolaw01_BitsTexts.j0 k a0 l1 (decide ((l1.length : Int) > 300)))
theorem magnetolaw01_BitsTexts.mono_l : ∀ k, (∀ y0 y1 y2, LeO (magnetolaw01_BitsTexts.j0 k y0 y1 y2) (magnetolaw01_BitsTexts.j0 (k + 1) y0 y1 y2)) ∧ (∀ y0, LeO (magnetolaw01_BitsTexts.j1 k y0) (magnetolaw01_BitsTexts.j1 (k + 1) y0)) ∧ (∀ y0 y1 y2 y3 y4, LeO (magnetolaw01_BitsTexts.l0 k y0 y1 y2 y3 y4) (magnetolaw01_BitsTexts.l0 (k + 1) y0 y1 y2 y3 y4))
 | 0 => ⟨fun _ _ _ r h => by simp [magnetolaw01_BitsTexts.j0] at h, fun _ r h => by simp [magnetolaw01_BitsTexts.j1] at h, fun _ _ _ _ _ r h => by simp [magnetolaw01_BitsTexts.l0] at h⟩
 | k + 1 => by
  obtain ⟨ih0, ih1, ih2⟩ := magnetolaw01_BitsTexts.mono_l k
  refine ⟨?_, ?_, ?_⟩
  ·
   intro y0 y1 y2
   unfold magnetolaw01_BitsTexts.j0
   repeat' first
   | (with_reducible exact ih0 _ _ _)
   | (with_reducible exact ih1 _)
   | (with_reducible exact ih2 _ _ _ _ _)
   | (with_reducible exact bits_Parse.mono _ _)
   | (with_reducible exact bits_Text.mono _ _)
   | (with_reducible exact magnetolaw01_awake.mono _)
   | (with_reducible exact magnetoref01_Check.mono _ _)
   | (with_reducible exact magnetoref01_Text.mono _ _)
   | (with_reducible exact LeO.refl _)
   | (with_reducible exact LeO.none _)
   | (with_reducible refine LeO.ite ?_ ?_)
   | (with_reducible refine LeO.bind ?_ (fun _ => ?_))
   | exact ih0 _ _ _
   | exact ih1 _
   | exact ih2 _ _ _ _ _
   | exact bits_Parse.mono _ _
   | exact bits_Text.mono _ _
   | exact magnetolaw01_awake.mono _
   | exact magnetoref01_Check.mono _ _
   | exact magnetoref01_Text.mono _ _
   | exact LeO.none _
   | refine LeO.ite ?_ ?_
   | refine LeO.bind ?_ (fun _ => ?_)
  ·
   intro y0
   unfold magnetolaw01_BitsTexts.j1
   repeat' first
   | (with_reducible exact ih0 _ _ _)
   | (with_reducible exact ih1 _)
   | (with_reducible exact ih2 _ _ _ _ _)
   | (with_reducible exact bits_Parse.mono _ _)
   | (with_reducible exact bits_Text.mono _ _)
   | (with_reducible exact magnetolaw01_awake.mono _)
   | (with_reducible exact magnetoref01_Check.mono _ _)
   | (with_reducible exact magnetoref01_Text.mono _ _)
   | (with_reducible exact LeO.refl _)
   | (with_reducible exact LeO.none _)
   | (with_reducible refine LeO.ite ?_ ?_)
   | (with_reducible refine LeO.bind ?_ (fun _ => ?_))
   | exact ih0 _ _ _
   | exact ih1 _
   | exact ih2 _ _ _ _ _
   | exact bits_Parse.mono _ _
   | exact bits_Text.mono _ _
   | exact magnetolaw01_awake.mono _
   | exact magnetoref01_Check.mono _ _
   | exact magnetoref01_Text.mono _ _
   | exact LeO.none _
   | refine LeO.ite ?_ ?_
   | refine LeO.bind ?_ (fun _ => ?_)
  ·
   intro y0 y1 y2 y3 y4
   unfold magnetolaw01_BitsTexts.l0
   repeat' first
   | (with_reducible exact ih0 _ _ _)
   | (with_reducible exact ih1 _)
   | (with_reducible exact ih2 _ _ _ _ _)
   | (with_reducible exact bits_Parse.mono _ _)
   | (with_reducible exact bits_Text.mono _ _)
   | (with_reducible exact magnetolaw01_awake.mono _)
   | (with_reducible exact magnetoref01_Check.mono _ _)
   | (with_reducible exact magnetoref01_Text.mono _ _)
   | (with_reducible exact LeO.refl _)
   | (with_reducible exact LeO.none _)
   | (with_reducible refine LeO.ite ?_ ?_)
   | (with_reducible refine LeO.bind ?_ (fun _ => ?_))
   | exact ih0 _ _ _
   | exact ih1 _
   | exact ih2 _ _ _ _ _
   | exact bits_Parse.mono _ _
   | exact bits_Text.mono _ _
   | exact magnetolaw01_awake.mono _
   | exact magnetoref01_Check.mono _ _
   | exact magnetoref01_Text.mono _ _
   | exact LeO.none _
   | refine LeO.ite ?_ ?_
   | refine LeO.bind ?_ (fun _ => ?_)
theorem magnetolaw01_BitsTexts.mono : ∀ a0 a1 k, LeO (magnetolaw01_BitsTexts.f k a0 a1) (magnetolaw01_BitsTexts.f (k + 1) a0 a1) := by
 intro a0 a1 k
 obtain ⟨ih0, ih1, ih2⟩ := magnetolaw01_BitsTexts.mono_l k
 unfold magnetolaw01_BitsTexts.f
 repeat' first
   | (with_reducible exact ih0 _ _ _)
   | (with_reducible exact ih1 _)
   | (with_reducible exact ih2 _ _ _ _ _)
   | (with_reducible exact bits_Parse.mono _ _)
   | (with_reducible exact bits_Text.mono _ _)
   | (with_reducible exact magnetolaw01_awake.mono _)
   | (with_reducible exact magnetoref01_Check.mono _ _)
   | (with_reducible exact magnetoref01_Text.mono _ _)
   | (with_reducible exact LeO.refl _)
   | (with_reducible exact LeO.none _)
   | (with_reducible refine LeO.ite ?_ ?_)
   | (with_reducible refine LeO.bind ?_ (fun _ => ?_))
   | exact ih0 _ _ _
   | exact ih1 _
   | exact ih2 _ _ _ _ _
   | exact bits_Parse.mono _ _
   | exact bits_Text.mono _ _
   | exact magnetolaw01_awake.mono _
   | exact magnetoref01_Check.mono _ _
   | exact magnetoref01_Text.mono _ _
   | exact LeO.none _
   | refine LeO.ite ?_ ?_
   | refine LeO.bind ?_ (fun _ => ?_)
set_option maxHeartbeats 8000000 in
set_option maxRecDepth 100000 in
theorem magnetolaw01_BitsTexts.calls (k : Nat) (a0 : ByteArray) (A1 : Option Addr) (c1 : Nat) (l1 : List Int) (r : Bool) (w : World) (hr1 : Kd.C (Kd.int .i64) w A1 l1.length l1) (hc1 : l1.length ≤ c1) (h : magnetolaw01_BitsTexts.f k a0 l1 = some r) :
  Calls Try.prog 5 #[.string a0, .slice A1 l1.length c1] w fun e w' => e = .returned (.bool r) ∧ Below w.heap.size w w' := by
 have HR1 := Aside0.mk hr1
 have HC1 := Aside0.mk hc1
 clear hr1 hc1
 have HB := Aside0.mk (Below.refl w.heap.size w)
 have H : (if (a0.size : Int) > 300 then (magnetolaw01_BitsTexts.j0 k a0 l1 true) else (magnetolaw01_BitsTexts.j0 k a0 l1 (decide ((l1.length : Int) > 300)))) = some r := h
 clear h
 have HC3 := Aside0.mk H
 clear H
 go_enter Try.func5, Try.ntmps5
 go_upto_region 1 with (fail)
 go_cut [20] (fun v20 wc => ∃ (kq : Nat) (x20_2 : Bool), v20 = .bool x20_2 ∧ Aside0 (magnetolaw01_BitsTexts.j0 kq a0 l1 x20_2 = some r) ∧ Aside0 (kq ≤ k) ∧ Aside0 (Below w.heap.size w wc))
 case first =>
  have H := HC3.out
  clear HC3
  by_cases c4 : (a0.size : Int) > 300
  ·
   rw [if_pos c4] at H
   have c4b0 : decide (300 < (a0.size : Int)) = true := decide_eq_true c4
   have c4b1 : decide (300 < a0.size) = true := decide_eq_true (by omega)
   clear c4
   (first | rw [c4b0] | (simp only [i64_w, i32_w]; rw [c4b0]) | skip)
   have H' := Aside0.mk H
   clear H
   go_wp2
   go_meet
   case rel => exact ⟨_, (true), (by first | rfl | (simp; done) | (simp [*]; done)), H', ⟨by first | omega | exact Nat.le_refl _⟩, ⟨by repeat (first | (with_reducible first | exact HB.out | apply below_alloc | apply pw_below_drewN | apply below_drew1) | exact HB.out)⟩⟩
  ·
   rw [if_neg c4] at H
   have c4b0 : decide (300 < (a0.size : Int)) = false := decide_eq_false c4
   have c4b1 : decide (300 < a0.size) = false := decide_eq_false (by omega)
   clear c4
   (first | rw [c4b0] | (simp only [i64_w, i32_w]; rw [c4b0]) | skip)
   have H' := Aside0.mk H
   clear H
   go_wp2
   go_meet
   case rel => exact ⟨_, (decide ((l1.length : Int) > 300)), (by first | rfl | (simp; done) | (simp [*]; done)), H', ⟨by first | omega | exact Nat.le_refl _⟩, ⟨by repeat (first | (with_reducible first | exact HB.out | apply below_alloc | apply pw_below_drewN | apply below_drew1) | exact HB.out)⟩⟩
 case rest =>
  clear HC3
  try clear c1
  try clear p2
  try clear c4
  try clear c4b0
  try clear c4b1
  obtain ⟨kq, x20_2, rfl, HA, HJ2, HB⟩ := hcut
  cases kq with
  | zero => exact absurd HA.out (by simp [magnetolaw01_BitsTexts.j0])
  | succ kj2 =>
   have H := HA.out
   clear HA
   simp only [magnetolaw01_BitsTexts.j0] at H
   by_cases c5 : x20_2 = true
   ·
    subst c5
    have H1 : ((magnetolaw01_awake.f kj2).bind fun t266 => (some t266)) = some r := by rw [if_pos rfl] at H; exact H
    clear H
    have H := H1
    clear H1
    replace H := Option.bind_eq_some_iff.mp H
    obtain ⟨t266, A60, H⟩ := H
    replace H : (some t266) = some r := H
    have A6 := Aside0.mk A60
    clear A60
    obtain rfl := Option.some.inj H
    go_wp2_with (first | ((with_reducible refine gate_callee (f := 29) rfl ?_); refine goesL_ (some 21) rfl rfl Try.func29 (by kernel_rfl) rfl #[] rfl (by (try simp only [List.map_toArray, List.map_cons, List.map_nil]); first | done | rfl | (simp only [List.length_drop, List.length_take]; rfl)) ?_; (with_reducible refine (magnetolaw01_awake.calls kj2  t266 _ A6.out).mono ?_); rintro e w7 ⟨rfl, hb⟩; refine ⟨_, rfl, ?_⟩; have n0_ := Aside0.mk (below_step (by repeat (first | (with_reducible first | exact HB.out | apply below_alloc | apply pw_below_drewN | apply below_drew1) | exact HB.out)) hb); clear HB; have HB := n0_; clear n0_; (try clear hb); (try clear hb2); (try clear hk); (try clear hi)))
    go_ret
    exact ⟨by first | rfl | (simp [errW_none, errW_some] <;> rfl) | (simp [*, errW_none, errW_some] <;> rfl), by repeat (first | (with_reducible first | exact HB.out | apply below_alloc | apply pw_below_drewN | apply below_drew1) | exact HB.out)⟩
   ·
    replace c5 := Bool.eq_false_iff.mpr c5
    subst c5
    have H1 : ((magnetoref01_Check.f kj2 l1).bind fun t267 => ((bits_Text.f kj2 l1).bind fun bt268 => ((bits_Check.f l1).bind fun t271 => (if t271 = t267 then (if t267 ≥ 0 then (if bt268.1.toList = ([] : List UInt8) then (if bt268.2.1 = t267 then (if bt268.2.2 = 10 then (magnetolaw01_BitsTexts.j1 kj2 a0) else (none)) else (none)) else (none)) else ((magnetoref01_Text.f kj2 l1).bind fun t272 => (if bt268.1.toList = t272.toList then (if bt268.2.1 = 0 then (if bt268.2.2 = 0 then (magnetolaw01_BitsTexts.j1 kj2 a0) else (none)) else (none)) else (none)))) else (none))))) = some r := by rw [if_neg (show ¬ (false = true) by decide)] at H; exact H
    clear H
    have H := H1
    clear H1
    replace H := Option.bind_eq_some_iff.mp H
    obtain ⟨t267, A80, H⟩ := H
    replace H : ((bits_Text.f kj2 l1).bind fun bt268 => ((bits_Check.f l1).bind fun t271 => (if t271 = t267 then (if t267 ≥ 0 then (if bt268.1.toList = ([] : List UInt8) then (if bt268.2.1 = t267 then (if bt268.2.2 = 10 then (magnetolaw01_BitsTexts.j1 kj2 a0) else (none)) else (none)) else (none)) else ((magnetoref01_Text.f kj2 l1).bind fun t272 => (if bt268.1.toList = t272.toList then (if bt268.2.1 = 0 then (if bt268.2.2 = 0 then (magnetolaw01_BitsTexts.j1 kj2 a0) else (none)) else (none)) else (none)))) else (none)))) = some r := H
    have A8 := Aside0.mk A80
    clear A80
    replace H := Option.bind_eq_some_iff.mp H
    obtain ⟨⟨t268, t269, t270⟩, A90, H⟩ := H
    replace H : ((bits_Check.f l1).bind fun t271 => (if t271 = t267 then (if t267 ≥ 0 then (if t268.toList = ([] : List UInt8) then (if t269 = t267 then (if t270 = 10 then (magnetolaw01_BitsTexts.j1 kj2 a0) else (none)) else (none)) else (none)) else ((magnetoref01_Text.f kj2 l1).bind fun t272 => (if t268.toList = t272.toList then (if t269 = 0 then (if t270 = 0 then (magnetolaw01_BitsTexts.j1 kj2 a0) else (none)) else (none)) else (none)))) else (none))) = some r := H
    have A9 := Aside0.mk A90
    clear A90
    replace H := Option.bind_eq_some_iff.mp H
    obtain ⟨t271, A100, H⟩ := H
    replace H : (if t271 = t267 then (if t267 ≥ 0 then (if t268.toList = ([] : List UInt8) then (if t269 = t267 then (if t270 = 10 then (magnetolaw01_BitsTexts.j1 kj2 a0) else (none)) else (none)) else (none)) else ((magnetoref01_Text.f kj2 l1).bind fun t272 => (if t268.toList = t272.toList then (if t269 = 0 then (if t270 = 0 then (magnetolaw01_BitsTexts.j1 kj2 a0) else (none)) else (none)) else (none)))) else (none)) = some r := H
    have A10 := Aside0.mk A100
    clear A100
    by_cases c11 : t271 = t267
    ·
     rw [if_pos c11] at H
     have c11b0 : (t271 == t267) = true := beq_iff_eq.mpr c11
     have c11b1 : (t271 != t267) = false := bne_eq_false_iff_eq.mpr c11
     clear c11
     have HC12 := Aside0.mk H
     clear H
     go_upto_if 35 with (first | ((with_reducible refine gate_callee (f := 30) rfl ?_); refine goesL_ (some 23) rfl rfl Try.func30 (by kernel_rfl) rfl #[.slice A1 l1.length c1] rfl (by (try simp only [List.map_toArray, List.map_cons, List.map_nil]); first | done | rfl | (simp only [List.length_drop, List.length_take]; rfl)) ?_; (with_reducible refine (magnetoref01_Check.calls kj2 _ _ l1 t267 _ ?side1 ?side2 A8.out).mono ?_); (case side1 => repeat (first | exact (Kd.C_below HR1.out HB.out) | (with_reducible refine Kd.C_alloc ?_ _) | (with_reducible refine Kd.C_drewN ?_ _) | (with_reducible refine Kd.C_drew ?_))); (case side2 => exact HC1.out); rintro e w' ⟨rfl, ⟨nd, rfl⟩⟩; refine ⟨_, rfl, ?_⟩) | ((with_reducible refine gate_callee (f := 31) rfl ?_); refine goesL_ (some 26) rfl rfl Try.func31 (by kernel_rfl) rfl #[.slice A1 l1.length c1] rfl (by (try simp only [List.map_toArray, List.map_cons, List.map_nil]); first | done | rfl | (simp only [List.length_drop, List.length_take]; rfl)) ?_; (with_reducible refine (bits_Text.calls kj2 _ _ l1 t268 t269 t270 _ ?side1 ?side2 A9.out).mono ?_); (case side1 => repeat (first | exact (Kd.C_below HR1.out (by repeat (first | (with_reducible first | exact HB.out | apply below_alloc | apply pw_below_drewN | apply below_drew1) | exact HB.out))) | (with_reducible refine Kd.C_alloc ?_ _) | (with_reducible refine Kd.C_drewN ?_ _) | (with_reducible refine Kd.C_drew ?_))); (case side2 => exact HC1.out); rintro e w13 ⟨rfl, hb⟩; refine ⟨_, rfl, ?_⟩; have n0_ := Aside0.mk (below_step (by repeat (first | (with_reducible first | exact HB.out | apply below_alloc | apply pw_below_drewN | apply below_drew1) | exact HB.out)) hb); clear HB; have HB := n0_; clear n0_; (try clear hb); (try clear hb2); (try clear hk); (try clear hi)) | ((with_reducible refine gate_callee (f := 32) rfl ?_); refine goesL_ (some 31) rfl rfl Try.func32 (by kernel_rfl) rfl #[.slice A1 l1.length c1] rfl (by (try simp only [List.map_toArray, List.map_cons, List.map_nil]); first | done | rfl | (simp only [List.length_drop, List.length_take]; rfl)) ?_; (with_reducible refine (bits_Check.calls _ _ l1 t271 _ ?side1 ?side2 A10.out).mono ?_); (case side1 => repeat (first | exact (Kd.C_below HR1.out HB.out) | (with_reducible refine Kd.C_alloc ?_ _) | (with_reducible refine Kd.C_drewN ?_ _) | (with_reducible refine Kd.C_drew ?_))); (case side2 => exact HC1.out); rintro e w' ⟨rfl, ⟨nd, rfl⟩⟩; refine ⟨_, rfl, ?_⟩))
     (try simp only [Act.put, List.setIfInBounds_toArray, List.set_cons_zero, List.set_cons_succ])
     go_cut [] (fun wc => ∃ (kq : Nat), Aside0 (magnetolaw01_BitsTexts.j1 kq a0 = some r) ∧ Aside0 (kq ≤ kj2) ∧ Aside0 (Below w.heap.size w wc))
     case first =>
      have H := HC12.out
      clear HC12
      by_cases c14 : t267 ≥ 0
      ·
       rw [if_pos c14] at H
       have c14b0 : decide (0 ≤ t267) = true := decide_eq_true c14
       clear c14
       (first | rw [c14b0] | (simp only [i64_w, i32_w]; rw [c14b0]) | skip)
       by_cases c15 : t268.toList = ([] : List UInt8)
       ·
        rw [if_pos c15] at H
        have c15b0 : (t268.toList == ([] : List UInt8)) = true := beq_iff_eq.mpr c15
        have c15b1 : (t268.toList != ([] : List UInt8)) = false := bne_eq_false_iff_eq.mpr c15
        clear c15
        by_cases c16 : t269 = t267
        ·
         rw [if_pos c16] at H
         have c16b0 : (t269 == t267) = true := beq_iff_eq.mpr c16
         have c16b1 : (t269 != t267) = false := bne_eq_false_iff_eq.mpr c16
         clear c16
         by_cases c17 : t270 = 10
         ·
          rw [if_pos c17] at H
          have c17b0 : (t270 == 10) = true := beq_iff_eq.mpr c17
          have c17b1 : (t270 != 10) = false := bne_eq_false_iff_eq.mpr c17
          clear c17
          have H' := Aside0.mk H
          clear H
          go_wp2
          go_meet
          case rel => exact ⟨_, H', ⟨by have := HJ2.out; first | omega | exact Nat.le_refl _⟩, ⟨by repeat (first | (with_reducible first | exact HB.out | apply below_alloc | apply pw_below_drewN | apply below_drew1) | exact HB.out)⟩⟩
         ·
          rw [if_neg c17] at H
          exact absurd H (by simp)
        ·
         rw [if_neg c16] at H
         exact absurd H (by simp)
       ·
        rw [if_neg c15] at H
        exact absurd H (by simp)
      ·
       rw [if_neg c14] at H
       have c14b0 : decide (0 ≤ t267) = false := decide_eq_false c14
       clear c14
       (first | rw [c14b0] | (simp only [i64_w, i32_w]; rw [c14b0]) | skip)
       replace H := Option.bind_eq_some_iff.mp H
       obtain ⟨t272, A180, H⟩ := H
       replace H : (if t268.toList = t272.toList then (if t269 = 0 then (if t270 = 0 then (magnetolaw01_BitsTexts.j1 kj2 a0) else (none)) else (none)) else (none)) = some r := H
       have A18 := Aside0.mk A180
       clear A180
       by_cases c19 : t268.toList = t272.toList
       ·
        rw [if_pos c19] at H
        have c19b0 : (t268.toList == t272.toList) = true := beq_iff_eq.mpr c19
        have c19b1 : (t268.toList != t272.toList) = false := bne_eq_false_iff_eq.mpr c19
        clear c19
        by_cases c20 : t269 = 0
        ·
         rw [if_pos c20] at H
         have c20b0 : (t269 == 0) = true := beq_iff_eq.mpr c20
         have c20b1 : (t269 != 0) = false := bne_eq_false_iff_eq.mpr c20
         clear c20
         by_cases c21 : t270 = 0
         ·
          rw [if_pos c21] at H
          have c21b0 : (t270 == 0) = true := beq_iff_eq.mpr c21
          have c21b1 : (t270 != 0) = false := bne_eq_false_iff_eq.mpr c21
          clear c21
          have H' := Aside0.mk H
          clear H
          go_wp2_with (first | ((with_reducible refine gate_callee (f := 33) rfl ?_); refine goesL_ (some 49) rfl rfl Try.func33 (by kernel_rfl) rfl #[.slice A1 l1.length c1] rfl (by (try simp only [List.map_toArray, List.map_cons, List.map_nil]); first | done | rfl | (simp only [List.length_drop, List.length_take]; rfl)) ?_; (with_reducible refine (magnetoref01_Text.calls kj2 _ _ l1 t272 _ ?side1 ?side2 A18.out).mono ?_); (case side1 => repeat (first | exact (Kd.C_below HR1.out HB.out) | (with_reducible refine Kd.C_alloc ?_ _) | (with_reducible refine Kd.C_drewN ?_ _) | (with_reducible refine Kd.C_drew ?_))); (case side2 => exact HC1.out); rintro e w' ⟨rfl, ⟨nd, rfl⟩⟩; refine ⟨_, rfl, ?_⟩))
          go_meet
          case rel => exact ⟨_, H', ⟨by have := HJ2.out; first | omega | exact Nat.le_refl _⟩, ⟨by repeat (first | (with_reducible first | exact HB.out | apply below_alloc | apply pw_below_drewN | apply below_drew1) | exact HB.out)⟩⟩
         ·
          rw [if_neg c21] at H
          exact absurd H (by simp)
        ·
         rw [if_neg c20] at H
         exact absurd H (by simp)
       ·
        rw [if_neg c19] at H
        exact absurd H (by simp)
     case rest =>
      clear HC12
      try clear c1
      try clear c2
      try clear p2
      try clear c3
      try clear c4
      try clear c4b0
      try clear c4b1
      try clear c5
      try clear c11
      try clear c11b0
      try clear c11b1
      try clear c14
      try clear c14b0
      try clear c15
      try clear c15b0
      try clear c15b1
      try clear c16
      try clear c16b0
      try clear c16b1
      try clear c17
      try clear c17b0
      try clear c17b1
      try clear c19
      try clear c19b0
      try clear c19b1
      try clear c20
      try clear c20b0
      try clear c20b1
      try clear c21
      try clear c21b0
      try clear c21b1
      try clear p2
      obtain ⟨kq, HA, HJ11, HB⟩ := hcut
      cases kq with
      | zero => exact absurd HA.out (by simp [magnetolaw01_BitsTexts.j1])
      | succ kj11 =>
       have H := HA.out
       clear HA
       simp only [magnetolaw01_BitsTexts.j1] at H
       replace H := Option.bind_eq_some_iff.mp H
       obtain ⟨⟨t273, t274, t275⟩, A220, H⟩ := H
       replace H : (magnetolaw01_BitsTexts.l0 kj11 a0 t273 t274 t275 0) = some r := H
       have A22 := Aside0.mk A220
       clear A220
       have H' := Aside0.mk H
       clear H
       go_wp2_with (first | ((with_reducible refine gate_callee (f := 34) rfl ?_); refine goesL_ (some 61) rfl rfl Try.func34 (by kernel_rfl) rfl #[.string a0] rfl (by (try simp only [List.map_toArray, List.map_cons, List.map_nil]); first | done | rfl | (simp only [List.length_drop, List.length_take]; rfl)) ?_; (with_reducible refine (bits_Parse.calls kj11 a0 t273 t274 t275 _ A22.out).mono ?_); rintro e w23 ⟨v276, rfl, ho0, hb⟩; refine ⟨_, rfl, ?_⟩; have n0_ := Aside0.mk (Kd.R_lower ho0 (below_size (by repeat (first | (with_reducible first | exact HB.out | apply below_alloc | apply pw_below_drewN | apply below_drew1) | exact HB.out)))); have n1_ := Aside0.mk (below_step (by repeat (first | (with_reducible first | exact HB.out | apply below_alloc | apply pw_below_drewN | apply below_drew1) | exact HB.out)) hb); clear HB; have HO277 := n0_; have HB := n1_; clear n0_ n1_; (try clear hb); (try clear hb2); (try clear hk); (try clear hi); (try clear ho0)))
       go_loopg [12] kj11 (fun kq v12 w' => ∃ (x12_3 : Int), v12 = .int .i64 x12_3 ∧ Aside0 (magnetolaw01_BitsTexts.l0 kq a0 t273 t274 t275 x12_3 = some r) ∧ Aside0 (kq ≤ kj11) ∧ Aside0 (Kd.R (Kd.int .i64) 3 w' w.heap.size (fun _ => True) v276 t273) ∧ Aside0 (Below w.heap.size w w'))
       case atStart => exact ⟨(0), (by first | rfl | (simp; done) | (simp [*]; done)), H', ⟨Nat.le_refl _⟩, ⟨by (with_reducible repeat (first | apply Kd.R_alloc | apply Kd.R_drewN | apply Kd.R_drew)); exact HO277.out⟩, ⟨by repeat (first | (with_reducible first | exact HB.out | apply below_alloc | apply pw_below_drewN | apply below_drew1) | exact HB.out)⟩⟩
       case round =>
        clear H'
        try clear c1
        try clear c2
        try clear p2
        try clear c3
        try clear c4
        try clear c4b0
        try clear c4b1
        try clear c5
        try clear c11
        try clear c11b0
        try clear c11b1
        try clear c14
        try clear c14b0
        try clear c15
        try clear c15b0
        try clear c15b1
        try clear c16
        try clear c16b0
        try clear c16b1
        try clear c17
        try clear c17b0
        try clear c17b1
        try clear c19
        try clear c19b0
        try clear c19b1
        try clear c20
        try clear c20b0
        try clear c20b1
        try clear c21
        try clear c21b0
        try clear c21b1
        try clear p2
        obtain ⟨x12_3, rfl, HA, HK3, HO_9, HB⟩ := hrel
        cases gk with
        | zero => exact absurd HA.out (by simp [magnetolaw01_BitsTexts.l0])
        | succ k3 =>
         have H := HA.out
         clear HA
         simp only [magnetolaw01_BitsTexts.l0] at H
         by_cases c24 : x12_3 < (a0.size : Int)
         ·
          rw [if_pos c24] at H
          have c24b0 : decide (x12_3 < (a0.size : Int)) = true := decide_eq_true c24
          clear c24
          by_cases c25 : 0 ≤ x12_3
          ·
           rw [if_pos c25] at H
           have c25b0 : decide (0 ≤ x12_3) = true := decide_eq_true c25
           clear c25
           by_cases c27 : (bt a0 x12_3) = 48
           ·
            rw [if_pos c27] at H
            have c27b0 : ((bt a0 x12_3) == 48) = true := beq_iff_eq.mpr c27
            have c27b1 : ((bt a0 x12_3) != 48) = false := bne_eq_false_iff_eq.mpr c27
            clear c27
            have H' := Aside0.mk H
            clear H
            have p26 : 0 ≤ (x12_3 : Int) := of_decide_eq_true (by first | (with_reducible assumption) | assumption)
            have q26 : x12_3 < (a0.size : Int) := of_decide_eq_true (by first | (with_reducible assumption) | assumption)
            have hx26 := bt_at a0 x12_3
            replace p26 := eq_true p26
            replace q26 := eq_true q26
            go_wp2
            go_roundg k3
            case measure => have := HJ2.out; have := HJ11.out; have := HK3.out; omega
            case rel => exact ⟨(wrap64 (x12_3 + 1)), (by first | rfl | (simp; done) | (simp [*]; done)), H', ⟨by have := HJ2.out; have := HJ11.out; have := HK3.out; omega⟩, ⟨by (with_reducible repeat (first | apply Kd.R_alloc | apply Kd.R_drewN | apply Kd.R_drew)); exact HO_9.out⟩, ⟨by repeat (first | (with_reducible first | exact HB.out | apply below_alloc | apply pw_below_drewN | apply below_drew1) | exact HB.out)⟩⟩
           ·
            rw [if_neg c27] at H
            have c27b0 : ((bt a0 x12_3) == 48) = false := beq_eq_false_iff_ne.mpr c27
            have c27b1 : ((bt a0 x12_3) != 48) = true := bne_iff_ne.mpr c27
            by_cases c29 : (bt a0 x12_3) = 49
            ·
             rw [if_pos c29] at H
             have c29b0 : ((bt a0 x12_3) == 49) = true := beq_iff_eq.mpr c29
             have c29b1 : ((bt a0 x12_3) != 49) = false := bne_eq_false_iff_eq.mpr c29
             clear c29
             have H' := Aside0.mk H
             clear H
             have p26 : 0 ≤ (x12_3 : Int) := of_decide_eq_true (by first | (with_reducible assumption) | assumption)
             have q26 : x12_3 < (a0.size : Int) := of_decide_eq_true (by first | (with_reducible assumption) | assumption)
             have hx26 := bt_at a0 x12_3
             replace p26 := eq_true p26
             replace q26 := eq_true q26
             have p28 : 0 ≤ (x12_3 : Int) := of_decide_eq_true (by first | (with_reducible assumption) | assumption)
             have q28 : x12_3 < (a0.size : Int) := of_decide_eq_true (by first | (with_reducible assumption) | assumption)
             have hx28 := bt_at a0 x12_3
             replace p28 := eq_true p28
             replace q28 := eq_true q28
             go_wp2
             go_roundg k3
             case measure => have := HJ2.out; have := HJ11.out; have := HK3.out; omega
             case rel => exact ⟨(wrap64 (x12_3 + 1)), (by first | rfl | (simp; done) | (simp [*]; done)), H', ⟨by have := HJ2.out; have := HJ11.out; have := HK3.out; omega⟩, ⟨by (with_reducible repeat (first | apply Kd.R_alloc | apply Kd.R_drewN | apply Kd.R_drew)); exact HO_9.out⟩, ⟨by repeat (first | (with_reducible first | exact HB.out | apply below_alloc | apply pw_below_drewN | apply below_drew1) | exact HB.out)⟩⟩
            ·
             rw [if_neg c29] at H
             have c29b0 : ((bt a0 x12_3) == 49) = false := beq_eq_false_iff_ne.mpr c29
             have c29b1 : ((bt a0 x12_3) != 49) = true := bne_iff_ne.mpr c29
             by_cases c30 : (t273.length : Int) = 0
             ·
              rw [if_pos c30] at H
              have c30b0 : ((t273.length : Int) == 0) = true := beq_iff_eq.mpr c30
              have c30b1 : ((t273.length : Int) != 0) = false := bne_eq_false_iff_eq.mpr c30
              clear c30
              by_cases c31 : t274 = x12_3
              ·
               rw [if_pos c31] at H
               have c31b0 : (t274 == x12_3) = true := beq_iff_eq.mpr c31
               have c31b1 : (t274 != x12_3) = false := bne_eq_false_iff_eq.mpr c31
               clear c31
               by_cases c32 : t275 = 11
               ·
                rw [if_pos c32] at H
                have c32b0 : (t275 == 11) = true := beq_iff_eq.mpr c32
                have c32b1 : (t275 != 11) = false := bne_eq_false_iff_eq.mpr c32
                clear c32
                replace H := Option.bind_eq_some_iff.mp H
                obtain ⟨t278, A330, H⟩ := H
                replace H : (some t278) = some r := H
                have A33 := Aside0.mk A330
                clear A330
                obtain rfl := Option.some.inj H
                have p26 : 0 ≤ (x12_3 : Int) := of_decide_eq_true (by first | (with_reducible assumption) | assumption)
                have q26 : x12_3 < (a0.size : Int) := of_decide_eq_true (by first | (with_reducible assumption) | assumption)
                have hx26 := bt_at a0 x12_3
                replace p26 := eq_true p26
                replace q26 := eq_true q26
                have p28 : 0 ≤ (x12_3 : Int) := of_decide_eq_true (by first | (with_reducible assumption) | assumption)
                have q28 : x12_3 < (a0.size : Int) := of_decide_eq_true (by first | (with_reducible assumption) | assumption)
                have hx28 := bt_at a0 x12_3
                replace p28 := eq_true p28
                replace q28 := eq_true q28
                obtain ⟨Ao34, co34, eo34⟩ := Kd.R_slice HO_9.out
                subst eo34
                go_wp2_with (first | (go_at_call 29; (with_reducible refine (magnetolaw01_awake.calls k3  t278 _ A33.out).mono ?_); rintro e w35 ⟨rfl, hb⟩; have n0_ := Aside0.mk (Kd.R_below (by (with_reducible repeat (first | apply Kd.R_alloc | apply Kd.R_drewN | apply Kd.R_drew)); exact HO_9.out) hb); have n1_ := Aside0.mk (below_step (by repeat (first | (with_reducible first | exact HB.out | apply below_alloc | apply pw_below_drewN | apply below_drew1) | exact HB.out)) hb); clear HO_9; clear HB; have HO_9 := n0_; have HB := n1_; clear n0_ n1_; (try clear hb); (try clear hb2); (try clear hk); (try clear hi)))
                go_ret
                exact ⟨by first | rfl | (simp [errW_none, errW_some] <;> rfl) | (simp [*, errW_none, errW_some] <;> rfl), by repeat (first | (with_reducible first | exact HB.out | apply below_alloc | apply pw_below_drewN | apply below_drew1) | exact HB.out)⟩
               ·
                rw [if_neg c32] at H
                exact absurd H (by simp)
              ·
               rw [if_neg c31] at H
               exact absurd H (by simp)
             ·
              rw [if_neg c30] at H
              exact absurd H (by simp)
          ·
           rw [if_neg c25] at H
           exact absurd H (by simp)
         ·
          rw [if_neg c24] at H
          have c24b0 : decide (x12_3 < (a0.size : Int)) = false := decide_eq_false c24
          clear c24
          replace H := Option.bind_eq_some_iff.mp H
          obtain ⟨t279, A360, H⟩ := H
          replace H : (if t279 = (-1) then ((magnetoref01_Text.f k3 t273).bind fun t280 => (if t280.toList = a0.toList then (if t274 = 0 then (if t275 = 0 then ((magnetolaw01_awake.f k3).bind fun t281 => (some t281)) else (none)) else (none)) else (none))) else (none)) = some r := H
          have A36 := Aside0.mk A360
          clear A360
          by_cases c37 : t279 = (-1)
          ·
           rw [if_pos c37] at H
           have c37b0 : (t279 == (-1)) = true := beq_iff_eq.mpr c37
           have c37b1 : (t279 != (-1)) = false := bne_eq_false_iff_eq.mpr c37
           clear c37
           replace H := Option.bind_eq_some_iff.mp H
           obtain ⟨t280, A380, H⟩ := H
           replace H : (if t280.toList = a0.toList then (if t274 = 0 then (if t275 = 0 then ((magnetolaw01_awake.f k3).bind fun t281 => (some t281)) else (none)) else (none)) else (none)) = some r := H
           have A38 := Aside0.mk A380
           clear A380
           by_cases c39 : t280.toList = a0.toList
           ·
            rw [if_pos c39] at H
            have c39b0 : (t280.toList == a0.toList) = true := beq_iff_eq.mpr c39
            have c39b1 : (t280.toList != a0.toList) = false := bne_eq_false_iff_eq.mpr c39
            clear c39
            by_cases c40 : t274 = 0
            ·
             rw [if_pos c40] at H
             have c40b0 : (t274 == 0) = true := beq_iff_eq.mpr c40
             have c40b1 : (t274 != 0) = false := bne_eq_false_iff_eq.mpr c40
             clear c40
             by_cases c41 : t275 = 0
             ·
              rw [if_pos c41] at H
              have c41b0 : (t275 == 0) = true := beq_iff_eq.mpr c41
              have c41b1 : (t275 != 0) = false := bne_eq_false_iff_eq.mpr c41
              clear c41
              replace H := Option.bind_eq_some_iff.mp H
              obtain ⟨t281, A420, H⟩ := H
              replace H : (some t281) = some r := H
              have A42 := Aside0.mk A420
              clear A420
              obtain rfl := Option.some.inj H
              obtain ⟨Ao43, co43, eo43⟩ := Kd.R_slice HO_9.out
              subst eo43
              go_wp2_with (first | ((with_reducible refine gate_callee (f := 30) rfl ?_); refine goesL_ (some 97) rfl rfl Try.func30 (by kernel_rfl) rfl #[.slice Ao43 t273.length co43] rfl (by (try simp only [List.map_toArray, List.map_cons, List.map_nil]); first | done | rfl | (simp only [List.length_drop, List.length_take]; rfl)) ?_; (with_reducible refine (magnetoref01_Check.calls k3 _ _ t273 t279 _ ?side1 ?side2 A36.out).mono ?_); (case side1 => repeat (first | exact (Kd.R_reads' HO_9.out).2.2 | (with_reducible refine Kd.C_alloc ?_ _) | (with_reducible refine Kd.C_drewN ?_ _) | (with_reducible refine Kd.C_drew ?_))); (case side2 => exact (Kd.R_reads' HO_9.out).2.1); rintro e w' ⟨rfl, ⟨nd, rfl⟩⟩; refine ⟨_, rfl, ?_⟩) | (go_at_call 33; (with_reducible refine (magnetoref01_Text.calls k3 _ _ t273 t280 _ ?side1 ?side2 A38.out).mono ?_); (case side1 => repeat (first | exact (Kd.R_reads' HO_9.out).2.2 | (with_reducible refine Kd.C_alloc ?_ _) | (with_reducible refine Kd.C_drewN ?_ _) | (with_reducible refine Kd.C_drew ?_))); (case side2 => exact (Kd.R_reads' HO_9.out).2.1); rintro e w' ⟨rfl, ⟨nd, rfl⟩⟩) | (go_at_call 29; (with_reducible refine (magnetolaw01_awake.calls k3  t281 _ A42.out).mono ?_); rintro e w44 ⟨rfl, hb⟩; have n0_ := Aside0.mk (Kd.R_below (by (with_reducible repeat (first | apply Kd.R_alloc | apply Kd.R_drewN | apply Kd.R_drew)); exact HO_9.out) hb); have n1_ := Aside0.mk (below_step (by repeat (first | (with_reducible first | exact HB.out | apply below_alloc | apply pw_below_drewN | apply below_drew1) | exact HB.out)) hb); clear HO_9; clear HB; have HO_9 := n0_; have HB := n1_; clear n0_ n1_; (try clear hb); (try clear hb2); (try clear hk); (try clear hi)))
              go_ret
              exact ⟨by first | rfl | (simp [errW_none, errW_some] <;> rfl) | (simp [*, errW_none, errW_some] <;> rfl), by repeat (first | (with_reducible first | exact HB.out | apply below_alloc | apply pw_below_drewN | apply below_drew1) | exact HB.out)⟩
             ·
              rw [if_neg c41] at H
              exact absurd H (by simp)
            ·
             rw [if_neg c40] at H
             exact absurd H (by simp)
           ·
            rw [if_neg c39] at H
            exact absurd H (by simp)
          ·
           rw [if_neg c37] at H
           exact absurd H (by simp)
    ·
     rw [if_neg c11] at H
     exact absurd H (by simp)

/-- THE ONE PURE STATEMENT of magnetolaw01_BitsTexts: yours. -/
def magnetolaw01_BitsTexts.Pure : Prop := ∀ (a0 : ByteArray) (l1 : List Int), a0.size ≤ 140737488351232 → l1.length ≤ maxLen → l1.length * 8 ≤ 140737488351232 → (∀ x ∈ l1, (Lit.int .i64 x).wf = true) → ∃ k, magnetolaw01_BitsTexts.f k a0 l1 = some true
theorem magnetolaw01_BitsTexts.walk (P : magnetolaw01_BitsTexts.Pure) (a0 : ByteArray) (a1 : Option Addr) (len1 cap1 : Nat) (z1 : List Int) (w : World) (w0 : a0.size ≤ 140737488351232) (w1 : (a1 = none ∧ len1 = 0 ∧ cap1 = 0 ∧ z1 = []) ∨ ∃ x, a1 = some x ∧ len1 ≤ cap1 ∧ cap1 ≤ maxLen ∧ z1.length = cap1 ∧ (∀ i, i < z1.length → w.cell? (x.add i) = some (.int .i64 (z1.getD i 0))) ∧ ∀ n ∈ z1, (Lit.int .i64 n).wf = true) (y1 : len1 * 8 ≤ 140737488351232) :
  Calls Try.prog 5 #[.string a0, .slice a1 len1 cap1] w fun e w' => e = .returned (.bool true) ∧ Below w.heap.size w w' := by
 obtain ⟨l1, rfl, hr1, hm1, hw1, hc1⟩ := ReadsInt.ofRowC w1
 obtain ⟨k, h⟩ := P a0 l1 w0 hm1 y1 hw1
 refine (magnetolaw01_BitsTexts.calls k a0 _ _ l1 true w (Kd.C_of_reads (d := (0 : Int)) (h1 := fun _ => rfl) hr1) hc1 h).mono ?_
 rintro e w' ⟨rfl, hd⟩
 exact ⟨rfl, hd⟩

/-! ### magnetoref01_Of: function 37 -/
def magnetoref01_Of.l0 : Nat → Int → Int → List Int → Int → Option (List Int)
 | 0, _, _, _, _ => none
 | k + 1, x0, x1, x5, x6 => if x6 < x1 then ((some (([wrap64 (Int.tmod x0 2)] : List Int) : List Int)).bind fun y285 => (if y285.length + x5.length < 17592186044416 then (magnetoref01_Of.l0 k (IntKind.u64.wrap (Int.tdiv x0 2)) x1 (y285 ++ x5) (wrap64 (x6 + 1))) else (none))) else (some x5)
def magnetoref01_Of.f (k : Nat) (a0 : Int) (a1 : Int) : Option (List Int) := magnetoref01_Of.l0 k a0 a1 (([] : List Int)) 0
theorem magnetoref01_Of.mono_l : ∀ k, (∀ y0 y1 y2 y3, LeO (magnetoref01_Of.l0 k y0 y1 y2 y3) (magnetoref01_Of.l0 (k + 1) y0 y1 y2 y3))
 | 0 => fun _ _ _ _ r h => by simp [magnetoref01_Of.l0] at h
 | k + 1 => by
  have ih0 := magnetoref01_Of.mono_l k
  ·
   intro y0 y1 y2 y3
   unfold magnetoref01_Of.l0
   repeat' first
   | (with_reducible exact ih0 _ _ _ _)
   | (with_reducible exact LeO.refl _)
   | (with_reducible exact LeO.none _)
   | (with_reducible refine LeO.ite ?_ ?_)
   | (with_reducible refine LeO.bind ?_ (fun _ => ?_))
   | exact ih0 _ _ _ _
   | exact LeO.none _
   | refine LeO.ite ?_ ?_
   | refine LeO.bind ?_ (fun _ => ?_)
theorem magnetoref01_Of.mono : ∀ a0 a1 k, LeO (magnetoref01_Of.f k a0 a1) (magnetoref01_Of.f (k + 1) a0 a1) := by
 intro a0 a1 k
 have ih0 := magnetoref01_Of.mono_l k
 unfold magnetoref01_Of.f
 repeat' first
   | (with_reducible exact ih0 _ _ _ _)
   | (with_reducible exact LeO.refl _)
   | (with_reducible exact LeO.none _)
   | (with_reducible refine LeO.ite ?_ ?_)
   | (with_reducible refine LeO.bind ?_ (fun _ => ?_))
   | exact ih0 _ _ _ _
   | exact LeO.none _
   | refine LeO.ite ?_ ?_
   | refine LeO.bind ?_ (fun _ => ?_)
set_option maxHeartbeats 8000000 in
set_option maxRecDepth 100000 in
theorem magnetoref01_Of.calls (k : Nat) (a0 : Int) (a1 : Int) (r : List Int) (w : World) (h : magnetoref01_Of.f k a0 a1 = some r) :
  Calls Try.prog 37 #[.int .u64 a0, .int .i64 a1] w fun e w' => ∃ v0_ : Value, e = .returned (v0_) ∧ Kd.R (Kd.int .i64) 3 w' w.heap.size (fun _ => True) v0_ r ∧ Below w.heap.size w w' := by
 have HB := Aside0.mk (Below.refl w.heap.size w)
 have H : (magnetoref01_Of.l0 k a0 a1 (([] : List Int)) 0) = some r := h
 clear h
 obtain ⟨y282, hy282⟩ : ∃ y_ : List Int, y_ = (([] : List Int)) := ⟨_, rfl⟩
 replace H : (magnetoref01_Of.l0 k a0 a1 y282 0) = some r := by first | (rw [hy282]; with_reducible exact H) | (have H2_ := (Option.bind_some _ _).symm.trans H; rw [hy282]; with_reducible exact H2_) | (have H2_ := (Option.bind_some _ _).symm.trans H; with_reducible exact H2_) | with_reducible exact H | (rw [hy282]; exact H) | exact H
 have Ny282 := Aside0.mk hy282
 clear hy282
 have H' := Aside0.mk H
 clear H
 go_enter Try.func37, Try.ntmps37
 go_wp2_with (first | ((with_reducible refine gate_dst (N := 7) rfl ?_); refine Kd.R_lit (Kd.int .i64) _ 3 ?hg (N := 7) ?hd (xs := ([] : List Int)) (inner := []) (ok := fun _ => True) (okp := fun _ => True) ?hr ?hp (fun _ hk => hk) trivial (Below.refl _ _) (Nat.le_refl _) (by simp) ?_; (case hd => rfl); (case hg => rfl); (case hr => first | (go_simp; done) | (go_simp; rfl)); (case hp => exact (Reps.none _ _)); intro v283 w3 ho4 hb hg_ hnew_; clear hg_ hnew_; (first | rw [← Ny282.out] at ho4 | (simp only [Int.reduceToNat] at ho4; rw [← Ny282.out] at ho4)); have n0_ := Aside0.mk (Kd.R_lower ho4 (below_size (by repeat (first | (with_reducible first | exact HB.out | apply below_alloc | apply pw_below_drewN | apply below_drew1) | exact HB.out)))); have n1_ := Aside0.mk (below_step (by repeat (first | (with_reducible first | exact HB.out | apply below_alloc | apply pw_below_drewN | apply below_drew1) | exact HB.out)) hb); clear HB; have HO284 := n0_; have HB := n1_; clear n0_ n1_; clear hb ho4))
 go_loopg [0, 5, 6] k (fun kq v0 v5 v6 w' => ∃ (x0_1 : Int) (x5_1 : List Int) (x6_1 : Int), v0 = .int .u64 x0_1 ∧ v6 = .int .i64 x6_1 ∧ Aside0 (magnetoref01_Of.l0 kq x0_1 a1 x5_1 x6_1 = some r) ∧ Aside0 (kq ≤ k) ∧ Aside0 (Kd.R (Kd.int .i64) 3 w' w.heap.size (fun _ => True) v5 x5_1) ∧ Aside0 (Below w.heap.size w w'))
 case atStart => exact ⟨(a0), (y282), (0), (by first | rfl | (simp; done) | (simp [*]; done)), (by first | rfl | (simp; done) | (simp [*]; done)), H', ⟨Nat.le_refl _⟩, ⟨by (with_reducible repeat (first | apply Kd.R_alloc | apply Kd.R_drewN | apply Kd.R_drew)); exact HO284.out⟩, ⟨by repeat (first | (with_reducible first | exact HB.out | apply below_alloc | apply pw_below_drewN | apply below_drew1) | exact HB.out)⟩⟩
 case round =>
  clear H'
  try clear p2
  try clear c3
  obtain ⟨x0_1, x5_1, x6_1, rfl, rfl, HA, HK1, HO_5, HB⟩ := hrel
  cases gk with
  | zero => exact absurd HA.out (by simp [magnetoref01_Of.l0])
  | succ k1 =>
   have H := HA.out
   clear HA
   simp only [magnetoref01_Of.l0] at H
   by_cases c5 : x6_1 < a1
   ·
    rw [if_pos c5] at H
    have c5b0 : decide (x6_1 < a1) = true := decide_eq_true c5
    clear c5
    obtain ⟨y285, hy285⟩ : ∃ y_ : List Int, y_ = (([wrap64 (Int.tmod x0_1 2)] : List Int)) := ⟨_, rfl⟩
    replace H : (if y285.length + x5_1.length < 17592186044416 then (magnetoref01_Of.l0 k1 (IntKind.u64.wrap (Int.tdiv x0_1 2)) a1 (y285 ++ x5_1) (wrap64 (x6_1 + 1))) else (none)) = some r := by first | (rw [hy285]; with_reducible exact H) | (have H2_ := (Option.bind_some _ _).symm.trans H; rw [hy285]; with_reducible exact H2_) | (have H2_ := (Option.bind_some _ _).symm.trans H; with_reducible exact H2_) | with_reducible exact H | (rw [hy285]; exact H) | exact H
    have Ny285 := Aside0.mk hy285
    clear hy285
    by_cases c6 : y285.length + x5_1.length < 17592186044416
    ·
     rw [if_pos c6] at H
     have LMc6 := Aside0.mk c6
     clear c6
     obtain ⟨y288, hy288⟩ : ∃ y_ : List Int, y_ = (y285 ++ x5_1) := ⟨_, rfl⟩
     replace H : (magnetoref01_Of.l0 k1 (IntKind.u64.wrap (Int.tdiv x0_1 2)) a1 y288 (wrap64 (x6_1 + 1))) = some r := by first | (rw [hy288]; with_reducible exact H) | (have H2_ := (Option.bind_some _ _).symm.trans H; rw [hy288]; with_reducible exact H2_) | (have H2_ := (Option.bind_some _ _).symm.trans H; with_reducible exact H2_) | with_reducible exact H | (rw [hy288]; exact H) | exact H
     have Ny288 := Aside0.mk hy288
     clear hy288
     have H' := Aside0.mk H
     clear H
     go_wp2_with (first | ((with_reducible refine gate_dst (N := 16) rfl ?_); refine Kd.R_lit (Kd.int .i64) _ 3 ?hg (N := 16) ?hd (xs := ([wrap64 (Int.tmod x0_1 2)] : List Int)) (inner := [.int .i64 (wrap64 (Int.tmod x0_1 2))]) (ok := fun _ => True) (okp := fun _ => True) ?hr ?hp (fun _ hk => hk) trivial (Below.refl _ _) (Nat.le_refl _) (by simp) ?_; (case hd => rfl); (case hg => rfl); (case hr => first | (go_simp; done) | (go_simp; rfl)); (case hp => exact (Reps.one (show Kd.M (Kd.int .i64) _ _ _ (wrap64 (Int.tmod x0_1 2)) [.int .i64 (wrap64 (Int.tmod x0_1 2))] from rfl) (Reps.none _ _))); intro v286 w7 ho8 hb hg_ hnew_; clear hg_ hnew_; (first | rw [← Ny285.out] at ho8 | (simp only [Int.reduceToNat] at ho8; rw [← Ny285.out] at ho8)); have n0_ := Aside0.mk (Kd.R_elder' (by (with_reducible repeat (first | apply Kd.R_alloc | apply Kd.R_drewN | apply Kd.R_drew)); exact HO_5.out) (Kd.R_base ho8) hb); have n1_ := Aside0.mk (Kd.R_lower (Kd.R_new' ho8 (Kd.R_lt (by (with_reducible repeat (first | apply Kd.R_alloc | apply Kd.R_drewN | apply Kd.R_drew)); exact HO_5.out))) (below_size (by repeat (first | (with_reducible first | exact HB.out | apply below_alloc | apply pw_below_drewN | apply below_drew1) | exact HB.out)))); have n2_ := Aside0.mk (below_step (by repeat (first | (with_reducible first | exact HB.out | apply below_alloc | apply pw_below_drewN | apply below_drew1) | exact HB.out)) hb); clear HO_5; clear HB; have HO_5 := n0_; have HO287 := n1_; have HB := n2_; clear n0_ n1_ n2_; clear hb ho8; obtain ⟨Ao10, co10, eo10⟩ := Kd.R_slice HO_5.out; subst eo10) | ((with_reducible refine gate_builtin (b := .append) (xs := #[.tmp 16, .tmp 17]) rfl ?_); at_builtin; refine Kd.R_append_rows (Kd.int .i64) (w0 := w) w.heap.size rfl (.tmp 16) (.tmp 17) 22 3 (.int .i64 0) 8 rfl Try.underlying22 info3 rfl (by decide) (by omega) v286 y285 x5_1 _ _ _ (fun k_ => some k_ ≠ (.slice Ao10 x5_1.length co10 : Value).ownBlock) (fun _ => False) rfl rfl ?aO ?aR (fun _ _ h => h) (fun _ h => h.elim) ?aF ?aB ?aS ?aL ?_; (case aR => repeat (first | exact (Kd.R_reads' HO_5.out).2.2 | (with_reducible refine Kd.C_alloc ?_ _) | (with_reducible refine Kd.C_drewN ?_ _) | (with_reducible refine Kd.C_drew ?_))); (case aB => exact (by repeat (first | (with_reducible first | exact HB.out | apply below_alloc | apply pw_below_drewN | apply below_drew1) | exact HB.out))); (case aF => exact (fun k_ hk => Kd.fresh' (Kd.R_lt (by (with_reducible repeat (first | apply Kd.R_alloc | apply Kd.R_drewN | apply Kd.R_drew)); exact HO_5.out)) k_ hk)); (case aO => exact (by (with_reducible repeat (first | apply Kd.R_alloc | apply Kd.R_drewN | apply Kd.R_drew)); exact Kd.R_mono HO287.out (fun _ hk => hk.2))); (case aS => exact (below_size (by repeat (first | (with_reducible first | exact HB.out | apply below_alloc | apply pw_below_drewN | apply below_drew1) | exact HB.out)))); (case aL => have := LMc6.out; omega); intro v289 w9 ho hb hg hat; rw [← Ny288.out] at ho; have n0_ := Aside0.mk (Kd.R_after (ok := (fun _ => True)) (by (with_reducible repeat (first | apply Kd.R_alloc | apply Kd.R_drewN | apply Kd.R_drew)); exact HO_5.out) hg hat); have n1_ := Aside0.mk (hb); have n2_ := Aside0.mk (ho); clear HO_5; clear HB; clear HO287; have HO_5 := n0_; have HB := n1_; have HO290 := n2_; clear n0_ n1_ n2_; clear ho hb hg hat))
     go_roundg k1
     case measure => have := HK1.out; omega
     case rel => exact ⟨(IntKind.u64.wrap (Int.tdiv x0_1 2)), (y288), (wrap64 (x6_1 + 1)), (by first | rfl | (simp; done) | (simp [*]; done)), (by first | rfl | (simp; done) | (simp [*]; done)), H', ⟨by have := HK1.out; omega⟩, ⟨by (with_reducible repeat (first | apply Kd.R_alloc | apply Kd.R_drewN | apply Kd.R_drew)); exact Kd.R_mono HO290.out (fun _ hk => trivial)⟩, ⟨by repeat (first | (with_reducible first | exact HB.out | apply below_alloc | apply pw_below_drewN | apply below_drew1) | exact HB.out)⟩⟩
    ·
     rw [if_neg c6] at H
     exact absurd H (by simp)
   ·
    rw [if_neg c5] at H
    have c5b0 : decide (x6_1 < a1) = false := decide_eq_false c5
    clear c5
    obtain rfl := Option.some.inj H
    go_wp2
    go_ret
    exact ⟨_, by first | rfl | (simp [errW_none, errW_some] <;> rfl) | (simp [*, errW_none, errW_some] <;> rfl), by (with_reducible repeat (first | apply Kd.R_alloc | apply Kd.R_drewN | apply Kd.R_drew)); exact HO_5.out, by repeat (first | (with_reducible first | exact HB.out | apply below_alloc | apply pw_below_drewN | apply below_drew1) | exact HB.out)⟩

/-! ### magnetoref01_Value: function 39 -/
def magnetoref01_Value.l0 : Nat → List Int → Int → Int → Option (Int)
 | 0, _, _, _ => none
 | k + 1, x0, x3, x4 => if x4 < (x0.length : Int) then (if 0 ≤ x4 then (magnetoref01_Value.l0 k x0 (IntKind.u64.wrap ((IntKind.u64.wrap (2 * x3)) + (IntKind.u64.wrap (rd x0 x4)))) (wrap64 (x4 + 1))) else (none)) else (some x3)
def magnetoref01_Value.f (k : Nat) (l0 : List Int) : Option (Int) := magnetoref01_Value.l0 k l0 0 0
theorem magnetoref01_Value.mono_l : ∀ k, (∀ y0 y1 y2, LeO (magnetoref01_Value.l0 k y0 y1 y2) (magnetoref01_Value.l0 (k + 1) y0 y1 y2))
 | 0 => fun _ _ _ r h => by simp [magnetoref01_Value.l0] at h
 | k + 1 => by
  have ih0 := magnetoref01_Value.mono_l k
  ·
   intro y0 y1 y2
   unfold magnetoref01_Value.l0
   repeat' first
   | (with_reducible exact ih0 _ _ _)
   | (with_reducible exact LeO.refl _)
   | (with_reducible exact LeO.none _)
   | (with_reducible refine LeO.ite ?_ ?_)
   | (with_reducible refine LeO.bind ?_ (fun _ => ?_))
   | exact ih0 _ _ _
   | exact LeO.none _
   | refine LeO.ite ?_ ?_
   | refine LeO.bind ?_ (fun _ => ?_)
theorem magnetoref01_Value.mono : ∀ a0 k, LeO (magnetoref01_Value.f k a0) (magnetoref01_Value.f (k + 1) a0) := by
 intro a0 k
 have ih0 := magnetoref01_Value.mono_l k
 unfold magnetoref01_Value.f
 repeat' first
   | (with_reducible exact ih0 _ _ _)
   | (with_reducible exact LeO.refl _)
   | (with_reducible exact LeO.none _)
   | (with_reducible refine LeO.ite ?_ ?_)
   | (with_reducible refine LeO.bind ?_ (fun _ => ?_))
   | exact ih0 _ _ _
   | exact LeO.none _
   | refine LeO.ite ?_ ?_
   | refine LeO.bind ?_ (fun _ => ?_)
set_option maxHeartbeats 8000000 in
set_option maxRecDepth 100000 in
theorem magnetoref01_Value.calls (k : Nat) (A0 : Option Addr) (c0 : Nat) (l0 : List Int) (r : Int) (w : World) (hr0 : Kd.C (Kd.int .i64) w A0 l0.length l0) (hc0 : l0.length ≤ c0) (h : magnetoref01_Value.f k l0 = some r) :
  Calls Try.prog 39 #[.slice A0 l0.length c0] w fun e w' => e = .returned (.int .u64 r) ∧ Drawn0 w w' := by
 have HR0 := Aside0.mk hr0
 have HC0 := Aside0.mk hc0
 clear hr0 hc0
 have H : (magnetoref01_Value.l0 k l0 0 0) = some r := h
 clear h
 have H' := Aside0.mk H
 clear H
 go_enter Try.func39, Try.ntmps39
 go_wp2
 go_loopg [3, 4] k (fun kq v3 v4 w' => ∃ (x3_1 : Int) (x4_1 : Int), v3 = .int .u64 x3_1 ∧ v4 = .int .i64 x4_1 ∧ Aside0 (magnetoref01_Value.l0 kq l0 x3_1 x4_1 = some r) ∧ Aside0 (kq ≤ k) ∧ Drawn0 w w')
 case atStart => exact ⟨(0), (0), (by first | rfl | (simp; done) | (simp [*]; done)), (by first | rfl | (simp; done) | (simp [*]; done)), H', ⟨Nat.le_refl _⟩, by repeat (first | exact Drawn0.refl _ | apply Drawn0.step)⟩
 case round =>
  clear H'
  obtain ⟨x3_1, x4_1, rfl, rfl, HA, HK1, ⟨m1, rfl⟩⟩ := hrel
  cases gk with
  | zero => exact absurd HA.out (by simp [magnetoref01_Value.l0])
  | succ k1 =>
   have H := HA.out
   clear HA
   simp only [magnetoref01_Value.l0] at H
   by_cases c2 : x4_1 < (l0.length : Int)
   ·
    rw [if_pos c2] at H
    have c2b0 : decide (x4_1 < (l0.length : Int)) = true := decide_eq_true c2
    clear c2
    by_cases c3 : 0 ≤ x4_1
    ·
     rw [if_pos c3] at H
     have c3b0 : decide (0 ≤ x4_1) = true := decide_eq_true c3
     clear c3
     have H' := Aside0.mk H
     clear H
     have p291 : 0 ≤ (x4_1 : Int) := of_decide_eq_true (by first | (with_reducible assumption) | assumption)
     have q291 : x4_1 < (l0.length : Int) := of_decide_eq_true (by first | (with_reducible assumption) | assumption)
     obtain ⟨ad291, e291, hx291_0⟩ := Kd.at_int HR0.out x4_1 p291 q291
     cases e291
     replace p291 := eq_true p291
     replace q291 := eq_true q291
     go_wp2
     go_roundg k1
     case measure => have := HK1.out; omega
     case rel => exact ⟨(IntKind.u64.wrap ((IntKind.u64.wrap (2 * x3_1)) + (IntKind.u64.wrap (rd l0 x4_1)))), (wrap64 (x4_1 + 1)), (by first | rfl | (simp; done) | (simp [*]; done)), (by first | rfl | (simp; done) | (simp [*]; done)), H', ⟨by have := HK1.out; omega⟩, by repeat (first | exact Drawn0.refl _ | apply Drawn0.step)⟩
    ·
     rw [if_neg c3] at H
     exact absurd H (by simp)
   ·
    rw [if_neg c2] at H
    have c2b0 : decide (x4_1 < (l0.length : Int)) = false := decide_eq_false c2
    clear c2
    obtain rfl := Option.some.inj H
    go_wp2
    go_ret
    exact ⟨by first | rfl | (simp; done) | (simp [*]; done), by repeat (first | exact Drawn0.refl _ | apply Drawn0.step)⟩

end Go.Proofs.Ytipflkbpjnacnaa.PA
