/- Functions of the program, in plain Lean, and their walks (printed; half the indent). Conditions: none. -/
-- PRINTED by print.py (a twelfth state) out of the translation. Not trusted: Lean checks it.
import Derived.Test.YtipflkbpjnacnaaPAx0
import Derived.Test.YtipflkbpjnacnaaPAx1
import Derived.Test.YtipflkbpjnacnaaPAx8
import Derived.Test.YtipflkbpjnacnaaPAx12
import Derived.Test.YtipflkbpjnacnaaPAx13
import Derived.Test.YtipflkbpjnacnaaPAx14
import Derived.Test.YtipflkbpjnacnaaPAx15
import Derived.Test.YtipflkbpjnacnaaPAx16
import Derived.Test.YtipflkbpjnacnaaPAx23
namespace Go.Proofs.Ytipflkbpjnacnaa.PA
open Go.RowKit Go.Proofs.YtipflkbpjnacnaaW.PrintWords Go.Proofs.YtipflkbpjnacnaaW.PrintLast Go.Proofs.YtipflkbpjnacnaaW.PrintMore
attribute [local go_sem] max2_int min2_int max_two min_two max_three min_three max_four min_four   -- for this text's walks alone
set_option linter.unusedVariables false
set_option linter.unusedSimpArgs false

/-! ### magnetolaw05_StuffBack: function 18 -/
mutual
def magnetolaw05_StuffBack.j0 : Nat → List Int → List Int → Bool → Option (Bool)
 | 0, _, _, _ => none
 | k + 1, x0, x1, x21 => if x21 = true then ((magnetolaw05_awake.f k).bind fun t774 => (some t774)) else ((bits_Check.f x0).bind fun t775 => (if t775 < 0 then ((stuff_Add.f x0).bind fun t776 => ((stuff_Take.f k t776).bind fun bt779 => ((stuff_Most.f (x0.length : Int)).bind fun bt784 => (if bt779.2.2 = 0 then (if bt779.2.1 = 0 then ((magnetolaw05_ints.f k bt779.1 x0).bind fun t786 => (if t786 = true then ((bits_Longest.f k t776).bind fun t787 => (if t787 > 5 then (none) else (if bt784.2 = 0 then (if (wrap64 ((t776.length : Int) - (x0.length : Int))) > bt784.1 then (none) else ((stuff_Count.f x0).bind fun t788 => (if t788 = (wrap64 ((t776.length : Int) - (x0.length : Int))) then (magnetolaw05_StuffBack.j1 k x1) else (none)))) else (none)))) else (none))) else (none)) else (none))))) else ((stuff_Add.f x0).bind fun t789 => (if (t789.length : Int) = 0 then (magnetolaw05_StuffBack.j1 k x1) else (none)))))
def magnetolaw05_StuffBack.j1 : Nat → List Int → Option (Bool)
 | 0, _ => none
 | k + 1, x1 => (stuff_Take.f k x1).bind fun bt792 => (if bt792.2.2 = 0 then ((stuff_Add.f bt792.1).bind fun t797 => ((magnetolaw05_ints.f k t797 x1).bind fun t800 => (if t800 = true then ((magnetolaw05_awake.f k).bind fun t801 => (some t801)) else (none)))) else (if (bt792.1.length : Int) = 0 then (if bt792.2.1 ≥ 0 then (if bt792.2.1 ≤ (x1.length : Int) then ((magnetolaw05_awake.f k).bind fun t802 => (some t802)) else (none)) else (none)) else (none)))
end
def magnetolaw05_StuffBack.f (k : Nat) (l0 : List Int) (l1 : List Int) : Option (Bool) := if (l0.length : Int) > 300 then (magnetolaw05_StuffBack.j0 k l0 l1 true) else (magnetolaw05_StuffBack.j0 k l0 l1 (decide ((l1.length : Int) > 300)))
theorem magnetolaw05_StuffBack.mono_l : ∀ k, (∀ y0 y1 y2, LeO (magnetolaw05_StuffBack.j0 k y0 y1 y2) (magnetolaw05_StuffBack.j0 (k + 1) y0 y1 y2)) ∧ (∀ y0, LeO (magnetolaw05_StuffBack.j1 k y0) (magnetolaw05_StuffBack.j1 (k + 1) y0))
 | 0 => ⟨fun _ _ _ r h => by simp [magnetolaw05_StuffBack.j0] at h, fun _ r h => by simp [magnetolaw05_StuffBack.j1] at h⟩
 | k + 1 => by
  obtain ⟨ih0, ih1⟩ := magnetolaw05_StuffBack.mono_l k
  refine ⟨?_, ?_⟩
  ·
   intro y0 y1 y2
   unfold magnetolaw05_StuffBack.j0
   repeat' first
   | (with_reducible exact ih0 _ _ _)
   | (with_reducible exact ih1 _)
   | (with_reducible exact bits_Longest.mono _ _)
   | (with_reducible exact magnetolaw05_awake.mono _)
   | (with_reducible exact magnetolaw05_ints.mono _ _ _)
   | (with_reducible exact stuff_Take.mono _ _)
   | (with_reducible exact LeO.refl _)
   | (with_reducible exact LeO.none _)
   | (with_reducible refine LeO.ite ?_ ?_)
   | (with_reducible refine LeO.bind ?_ (fun _ => ?_))
   | exact ih0 _ _ _
   | exact ih1 _
   | exact bits_Longest.mono _ _
   | exact magnetolaw05_awake.mono _
   | exact magnetolaw05_ints.mono _ _ _
   | exact stuff_Take.mono _ _
   | exact LeO.none _
   | refine LeO.ite ?_ ?_
   | refine LeO.bind ?_ (fun _ => ?_)
  ·
   intro y0
   unfold magnetolaw05_StuffBack.j1
   repeat' first
   | (with_reducible exact ih0 _ _ _)
   | (with_reducible exact ih1 _)
   | (with_reducible exact bits_Longest.mono _ _)
   | (with_reducible exact magnetolaw05_awake.mono _)
   | (with_reducible exact magnetolaw05_ints.mono _ _ _)
   | (with_reducible exact stuff_Take.mono _ _)
   | (with_reducible exact LeO.refl _)
   | (with_reducible exact LeO.none _)
   | (with_reducible refine LeO.ite ?_ ?_)
   | (with_reducible refine LeO.bind ?_ (fun _ => ?_))
   | exact ih0 _ _ _
   | exact ih1 _
   | exact bits_Longest.mono _ _
   | exact magnetolaw05_awake.mono _
   | exact magnetolaw05_ints.mono _ _ _
   | exact stuff_Take.mono _ _
   | exact LeO.none _
   | refine LeO.ite ?_ ?_
   | refine LeO.bind ?_ (fun _ => ?_)
theorem magnetolaw05_StuffBack.mono : ∀ a0 a1 k, LeO (magnetolaw05_StuffBack.f k a0 a1) (magnetolaw05_StuffBack.f (k + 1) a0 a1) := by
 intro a0 a1 k
 obtain ⟨ih0, ih1⟩ := magnetolaw05_StuffBack.mono_l k
 unfold magnetolaw05_StuffBack.f
 repeat' first
   | (with_reducible exact ih0 _ _ _)
   | (with_reducible exact ih1 _)
   | (with_reducible exact bits_Longest.mono _ _)
   | (with_reducible exact magnetolaw05_awake.mono _)
   | (with_reducible exact magnetolaw05_ints.mono _ _ _)
   | (with_reducible exact stuff_Take.mono _ _)
   | (with_reducible exact LeO.refl _)
   | (with_reducible exact LeO.none _)
   | (with_reducible refine LeO.ite ?_ ?_)
   | (with_reducible refine LeO.bind ?_ (fun _ => ?_))
   | exact ih0 _ _ _
   | exact ih1 _
   | exact bits_Longest.mono _ _
   | exact magnetolaw05_awake.mono _
   | exact magnetolaw05_ints.mono _ _ _
   | exact stuff_Take.mono _ _
   | exact LeO.none _
   | refine LeO.ite ?_ ?_
   | refine LeO.bind ?_ (fun _ => ?_)
set_option maxHeartbeats 8000000 in
set_option maxRecDepth 100000 in
theorem magnetolaw05_StuffBack.calls (k : Nat) (A0 : Option Addr) (c0 : Nat) (l0 : List Int) (A1 : Option Addr) (c1 : Nat) (l1 : List Int) (r : Bool) (w : World) (hr0 : Kd.C (Kd.int .i64) w A0 l0.length l0) (hc0 : l0.length ≤ c0) (hr1 : Kd.C (Kd.int .i64) w A1 l1.length l1) (hc1 : l1.length ≤ c1) (h : magnetolaw05_StuffBack.f k l0 l1 = some r) :
  Calls Try.prog 18 #[.slice A0 l0.length c0, .slice A1 l1.length c1] w fun e w' => e = .returned (.bool r) ∧ Below w.heap.size w w' := by
 have HR0 := Aside0.mk hr0
 have HC0 := Aside0.mk hc0
 clear hr0 hc0
 have HR1 := Aside0.mk hr1
 have HC1 := Aside0.mk hc1
 clear hr1 hc1
 have HB := Aside0.mk (Below.refl w.heap.size w)
 have H : (if (l0.length : Int) > 300 then (magnetolaw05_StuffBack.j0 k l0 l1 true) else (magnetolaw05_StuffBack.j0 k l0 l1 (decide ((l1.length : Int) > 300)))) = some r := h
 clear h
 have HC3 := Aside0.mk H
 clear H
 go_enter Try.func18, Try.ntmps18
 go_upto_region 1 with (fail)
 go_cut [21] (fun v21 wc => ∃ (kq : Nat) (x21_2 : Bool), v21 = .bool x21_2 ∧ Aside0 (magnetolaw05_StuffBack.j0 kq l0 l1 x21_2 = some r) ∧ Aside0 (kq ≤ k) ∧ Aside0 (Below w.heap.size w wc))
 case first =>
  have H := HC3.out
  clear HC3
  by_cases c4 : (l0.length : Int) > 300
  ·
   rw [if_pos c4] at H
   have c4b0 : decide (300 < (l0.length : Int)) = true := decide_eq_true c4
   have c4b1 : decide (300 < l0.length) = true := decide_eq_true (by omega)
   clear c4
   (first | rw [c4b0] | (simp only [i64_w, i32_w]; rw [c4b0]) | skip)
   have H' := Aside0.mk H
   clear H
   go_wp2
   go_meet
   case rel => exact ⟨_, (true), (by first | rfl | (simp; done) | (simp [*]; done)), H', ⟨by first | omega | exact Nat.le_refl _⟩, ⟨by repeat (first | (with_reducible first | exact HB.out | apply below_alloc | apply pw_below_drewN | apply below_drew1) | exact HB.out)⟩⟩
  ·
   rw [if_neg c4] at H
   have c4b0 : decide (300 < (l0.length : Int)) = false := decide_eq_false c4
   have c4b1 : decide (300 < l0.length) = false := decide_eq_false (by omega)
   clear c4
   (first | rw [c4b0] | (simp only [i64_w, i32_w]; rw [c4b0]) | skip)
   have H' := Aside0.mk H
   clear H
   go_wp2
   go_meet
   case rel => exact ⟨_, (decide ((l1.length : Int) > 300)), (by first | rfl | (simp; done) | (simp [*]; done)), H', ⟨by first | omega | exact Nat.le_refl _⟩, ⟨by repeat (first | (with_reducible first | exact HB.out | apply below_alloc | apply pw_below_drewN | apply below_drew1) | exact HB.out)⟩⟩
 case rest =>
  clear HC3
  try clear c1
  try clear p2
  try clear c4
  try clear c4b0
  try clear c4b1
  obtain ⟨kq, x21_2, rfl, HA, HJ2, HB⟩ := hcut
  cases kq with
  | zero => exact absurd HA.out (by simp [magnetolaw05_StuffBack.j0])
  | succ kj2 =>
   have H := HA.out
   clear HA
   simp only [magnetolaw05_StuffBack.j0] at H
   by_cases c5 : x21_2 = true
   ·
    subst c5
    have H1 : ((magnetolaw05_awake.f kj2).bind fun t774 => (some t774)) = some r := by rw [if_pos rfl] at H; exact H
    clear H
    have H := H1
    clear H1
    replace H := Option.bind_eq_some_iff.mp H
    obtain ⟨t774, A60, H⟩ := H
    replace H : (some t774) = some r := H
    have A6 := Aside0.mk A60
    clear A60
    obtain rfl := Option.some.inj H
    go_wp2_with (first | ((with_reducible refine gate_callee (f := 40) rfl ?_); refine goesL_ (some 22) rfl rfl Try.func40 (by kernel_rfl) rfl #[] rfl (by (try simp only [List.map_toArray, List.map_cons, List.map_nil]); first | done | rfl | (simp only [List.length_drop, List.length_take]; rfl)) ?_; (with_reducible refine (magnetolaw05_awake.calls kj2  t774 _ A6.out).mono ?_); rintro e w7 ⟨rfl, hb⟩; refine ⟨_, rfl, ?_⟩; have n0_ := Aside0.mk (below_step (by repeat (first | (with_reducible first | exact HB.out | apply below_alloc | apply pw_below_drewN | apply below_drew1) | exact HB.out)) hb); clear HB; have HB := n0_; clear n0_; (try clear hb); (try clear hb2); (try clear hk); (try clear hi)))
    go_ret
    exact ⟨by first | rfl | (simp [errW_none, errW_some] <;> rfl) | (simp [*, errW_none, errW_some] <;> rfl), by repeat (first | (with_reducible first | exact HB.out | apply below_alloc | apply pw_below_drewN | apply below_drew1) | exact HB.out)⟩
   ·
    replace c5 := Bool.eq_false_iff.mpr c5
    subst c5
    have H1 : ((bits_Check.f l0).bind fun t775 => (if t775 < 0 then ((stuff_Add.f l0).bind fun t776 => ((stuff_Take.f kj2 t776).bind fun bt779 => ((stuff_Most.f (l0.length : Int)).bind fun bt784 => (if bt779.2.2 = 0 then (if bt779.2.1 = 0 then ((magnetolaw05_ints.f kj2 bt779.1 l0).bind fun t786 => (if t786 = true then ((bits_Longest.f kj2 t776).bind fun t787 => (if t787 > 5 then (none) else (if bt784.2 = 0 then (if (wrap64 ((t776.length : Int) - (l0.length : Int))) > bt784.1 then (none) else ((stuff_Count.f l0).bind fun t788 => (if t788 = (wrap64 ((t776.length : Int) - (l0.length : Int))) then (magnetolaw05_StuffBack.j1 kj2 l1) else (none)))) else (none)))) else (none))) else (none)) else (none))))) else ((stuff_Add.f l0).bind fun t789 => (if (t789.length : Int) = 0 then (magnetolaw05_StuffBack.j1 kj2 l1) else (none))))) = some r := by rw [if_neg (show ¬ (false = true) by decide)] at H; exact H
    clear H
    have H := H1
    clear H1
    replace H := Option.bind_eq_some_iff.mp H
    obtain ⟨t775, A80, H⟩ := H
    replace H : (if t775 < 0 then ((stuff_Add.f l0).bind fun t776 => ((stuff_Take.f kj2 t776).bind fun bt779 => ((stuff_Most.f (l0.length : Int)).bind fun bt784 => (if bt779.2.2 = 0 then (if bt779.2.1 = 0 then ((magnetolaw05_ints.f kj2 bt779.1 l0).bind fun t786 => (if t786 = true then ((bits_Longest.f kj2 t776).bind fun t787 => (if t787 > 5 then (none) else (if bt784.2 = 0 then (if (wrap64 ((t776.length : Int) - (l0.length : Int))) > bt784.1 then (none) else ((stuff_Count.f l0).bind fun t788 => (if t788 = (wrap64 ((t776.length : Int) - (l0.length : Int))) then (magnetolaw05_StuffBack.j1 kj2 l1) else (none)))) else (none)))) else (none))) else (none)) else (none))))) else ((stuff_Add.f l0).bind fun t789 => (if (t789.length : Int) = 0 then (magnetolaw05_StuffBack.j1 kj2 l1) else (none)))) = some r := H
    have A8 := Aside0.mk A80
    clear A80
    have HC9 := Aside0.mk H
    clear H
    go_upto_if 25 with (first | ((with_reducible refine gate_callee (f := 32) rfl ?_); refine goesL_ (some 24) rfl rfl Try.func32 (by kernel_rfl) rfl #[.slice A0 l0.length c0] rfl (by (try simp only [List.map_toArray, List.map_cons, List.map_nil]); first | done | rfl | (simp only [List.length_drop, List.length_take]; rfl)) ?_; (with_reducible refine (bits_Check.calls _ _ l0 t775 _ ?side1 ?side2 A8.out).mono ?_); (case side1 => repeat (first | exact (Kd.C_below HR0.out HB.out) | (with_reducible refine Kd.C_alloc ?_ _) | (with_reducible refine Kd.C_drewN ?_ _) | (with_reducible refine Kd.C_drew ?_))); (case side2 => exact HC0.out); rintro e w' ⟨rfl, ⟨nd, rfl⟩⟩; refine ⟨_, rfl, ?_⟩))
    (try simp only [Act.put, List.setIfInBounds_toArray, List.set_cons_zero, List.set_cons_succ])
    go_cut [] (fun wc => ∃ (kq : Nat), Aside0 (magnetolaw05_StuffBack.j1 kq l1 = some r) ∧ Aside0 (kq ≤ kj2) ∧ Aside0 (Below w.heap.size w wc))
    case first =>
     have H := HC9.out
     clear HC9
     by_cases c10 : t775 < 0
     ·
      rw [if_pos c10] at H
      have c10b0 : decide (t775 < 0) = true := decide_eq_true c10
      clear c10
      (first | rw [c10b0] | (simp only [i64_w, i32_w]; rw [c10b0]) | skip)
      replace H := Option.bind_eq_some_iff.mp H
      obtain ⟨t776, A110, H⟩ := H
      replace H : ((stuff_Take.f kj2 t776).bind fun bt779 => ((stuff_Most.f (l0.length : Int)).bind fun bt784 => (if bt779.2.2 = 0 then (if bt779.2.1 = 0 then ((magnetolaw05_ints.f kj2 bt779.1 l0).bind fun t786 => (if t786 = true then ((bits_Longest.f kj2 t776).bind fun t787 => (if t787 > 5 then (none) else (if bt784.2 = 0 then (if (wrap64 ((t776.length : Int) - (l0.length : Int))) > bt784.1 then (none) else ((stuff_Count.f l0).bind fun t788 => (if t788 = (wrap64 ((t776.length : Int) - (l0.length : Int))) then (magnetolaw05_StuffBack.j1 kj2 l1) else (none)))) else (none)))) else (none))) else (none)) else (none)))) = some r := H
      have A11 := Aside0.mk A110
      clear A110
      replace H := Option.bind_eq_some_iff.mp H
      obtain ⟨⟨t779, t780, t781⟩, A120, H⟩ := H
      replace H : ((stuff_Most.f (l0.length : Int)).bind fun bt784 => (if t781 = 0 then (if t780 = 0 then ((magnetolaw05_ints.f kj2 t779 l0).bind fun t786 => (if t786 = true then ((bits_Longest.f kj2 t776).bind fun t787 => (if t787 > 5 then (none) else (if bt784.2 = 0 then (if (wrap64 ((t776.length : Int) - (l0.length : Int))) > bt784.1 then (none) else ((stuff_Count.f l0).bind fun t788 => (if t788 = (wrap64 ((t776.length : Int) - (l0.length : Int))) then (magnetolaw05_StuffBack.j1 kj2 l1) else (none)))) else (none)))) else (none))) else (none)) else (none))) = some r := H
      have A12 := Aside0.mk A120
      clear A120
      replace H := Option.bind_eq_some_iff.mp H
      obtain ⟨⟨t784, t785⟩, A130, H⟩ := H
      replace H : (if t781 = 0 then (if t780 = 0 then ((magnetolaw05_ints.f kj2 t779 l0).bind fun t786 => (if t786 = true then ((bits_Longest.f kj2 t776).bind fun t787 => (if t787 > 5 then (none) else (if t785 = 0 then (if (wrap64 ((t776.length : Int) - (l0.length : Int))) > t784 then (none) else ((stuff_Count.f l0).bind fun t788 => (if t788 = (wrap64 ((t776.length : Int) - (l0.length : Int))) then (magnetolaw05_StuffBack.j1 kj2 l1) else (none)))) else (none)))) else (none))) else (none)) else (none)) = some r := H
      have A13 := Aside0.mk A130
      clear A130
      by_cases c14 : t781 = 0
      ·
       rw [if_pos c14] at H
       have c14b0 : (t781 == 0) = true := beq_iff_eq.mpr c14
       have c14b1 : (t781 != 0) = false := bne_eq_false_iff_eq.mpr c14
       clear c14
       by_cases c15 : t780 = 0
       ·
        rw [if_pos c15] at H
        have c15b0 : (t780 == 0) = true := beq_iff_eq.mpr c15
        have c15b1 : (t780 != 0) = false := bne_eq_false_iff_eq.mpr c15
        clear c15
        replace H := Option.bind_eq_some_iff.mp H
        obtain ⟨t786, A160, H⟩ := H
        replace H : (if t786 = true then ((bits_Longest.f kj2 t776).bind fun t787 => (if t787 > 5 then (none) else (if t785 = 0 then (if (wrap64 ((t776.length : Int) - (l0.length : Int))) > t784 then (none) else ((stuff_Count.f l0).bind fun t788 => (if t788 = (wrap64 ((t776.length : Int) - (l0.length : Int))) then (magnetolaw05_StuffBack.j1 kj2 l1) else (none)))) else (none)))) else (none)) = some r := H
        have A16 := Aside0.mk A160
        clear A160
        by_cases c17 : t786 = true
        ·
         subst c17
         have H1 : ((bits_Longest.f kj2 t776).bind fun t787 => (if t787 > 5 then (none) else (if t785 = 0 then (if (wrap64 ((t776.length : Int) - (l0.length : Int))) > t784 then (none) else ((stuff_Count.f l0).bind fun t788 => (if t788 = (wrap64 ((t776.length : Int) - (l0.length : Int))) then (magnetolaw05_StuffBack.j1 kj2 l1) else (none)))) else (none)))) = some r := by rw [if_pos rfl] at H; exact H
         clear H
         have H := H1
         clear H1
         replace H := Option.bind_eq_some_iff.mp H
         obtain ⟨t787, A180, H⟩ := H
         replace H : (if t787 > 5 then (none) else (if t785 = 0 then (if (wrap64 ((t776.length : Int) - (l0.length : Int))) > t784 then (none) else ((stuff_Count.f l0).bind fun t788 => (if t788 = (wrap64 ((t776.length : Int) - (l0.length : Int))) then (magnetolaw05_StuffBack.j1 kj2 l1) else (none)))) else (none))) = some r := H
         have A18 := Aside0.mk A180
         clear A180
         by_cases c19 : t787 > 5
         ·
          rw [if_pos c19] at H
          exact absurd H (by simp)
         ·
          rw [if_neg c19] at H
          have c19b0 : decide (5 < t787) = false := decide_eq_false c19
          clear c19
          by_cases c20 : t785 = 0
          ·
           rw [if_pos c20] at H
           have c20b0 : (t785 == 0) = true := beq_iff_eq.mpr c20
           have c20b1 : (t785 != 0) = false := bne_eq_false_iff_eq.mpr c20
           clear c20
           by_cases c21 : (wrap64 ((t776.length : Int) - (l0.length : Int))) > t784
           ·
            rw [if_pos c21] at H
            exact absurd H (by simp)
           ·
            rw [if_neg c21] at H
            have c21b0 : decide (t784 < (wrap64 ((t776.length : Int) - (l0.length : Int)))) = false := decide_eq_false c21
            clear c21
            replace H := Option.bind_eq_some_iff.mp H
            obtain ⟨t788, A220, H⟩ := H
            replace H : (if t788 = (wrap64 ((t776.length : Int) - (l0.length : Int))) then (magnetolaw05_StuffBack.j1 kj2 l1) else (none)) = some r := H
            have A22 := Aside0.mk A220
            clear A220
            by_cases c23 : t788 = (wrap64 ((t776.length : Int) - (l0.length : Int)))
            ·
             rw [if_pos c23] at H
             have c23b0 : (t788 == (wrap64 ((t776.length : Int) - (l0.length : Int)))) = true := beq_iff_eq.mpr c23
             have c23b1 : (t788 != (wrap64 ((t776.length : Int) - (l0.length : Int)))) = false := bne_eq_false_iff_eq.mpr c23
             clear c23
             have H' := Aside0.mk H
             clear H
             go_wp2_with (first | ((with_reducible refine gate_callee (f := 43) rfl ?_); refine goesL_ (some 27) rfl rfl Try.func43 (by kernel_rfl) rfl #[.slice A0 l0.length c0] rfl (by (try simp only [List.map_toArray, List.map_cons, List.map_nil]); first | done | rfl | (simp only [List.length_drop, List.length_take]; rfl)) ?_; (with_reducible refine (stuff_Add.calls _ _ l0 t776 _ ?side1 ?side2 A11.out).mono ?_); (case side1 => repeat (first | exact (Kd.C_below HR0.out HB.out) | (with_reducible refine Kd.C_alloc ?_ _) | (with_reducible refine Kd.C_drewN ?_ _) | (with_reducible refine Kd.C_drew ?_))); (case side2 => exact HC0.out); rintro e w24 ⟨v777, rfl, ho0, hb⟩; refine ⟨_, rfl, ?_⟩; have n0_ := Aside0.mk (Kd.R_lower ho0 (below_size (by repeat (first | (with_reducible first | exact HB.out | apply below_alloc | apply pw_below_drewN | apply below_drew1) | exact HB.out)))); have n1_ := Aside0.mk (below_step (by repeat (first | (with_reducible first | exact HB.out | apply below_alloc | apply pw_below_drewN | apply below_drew1) | exact HB.out)) hb); clear HB; have HO778 := n0_; have HB := n1_; clear n0_ n1_; (try clear hb); (try clear hb2); (try clear hk); (try clear hi); (try clear ho0); obtain ⟨Ao25, co25, eo25⟩ := Kd.R_slice HO778.out; subst eo25) | ((with_reducible refine gate_callee (f := 46) rfl ?_); refine goesL_ (some 30) rfl rfl Try.func46 (by kernel_rfl) rfl #[.slice Ao25 t776.length co25] rfl (by (try simp only [List.map_toArray, List.map_cons, List.map_nil]); first | done | rfl | (simp only [List.length_drop, List.length_take]; rfl)) ?_; (with_reducible refine (stuff_Take.calls kj2 _ _ t776 t779 t780 t781 _ ?side1 ?side2 A12.out).mono ?_); (case side1 => repeat (first | exact (Kd.R_reads' HO778.out).2.2 | (with_reducible refine Kd.C_alloc ?_ _) | (with_reducible refine Kd.C_drewN ?_ _) | (with_reducible refine Kd.C_drew ?_))); (case side2 => exact (Kd.R_reads' HO778.out).2.1); rintro e w26 ⟨v782, rfl, ho0, hb⟩; refine ⟨_, rfl, ?_⟩; have n0_ := Aside0.mk (Kd.R_elder' (by (with_reducible repeat (first | apply Kd.R_alloc | apply Kd.R_drewN | apply Kd.R_drew)); exact HO778.out) (Kd.R_base ho0) hb); have n1_ := Aside0.mk (Kd.R_lower (Kd.R_new' ho0 (Kd.R_lt (by (with_reducible repeat (first | apply Kd.R_alloc | apply Kd.R_drewN | apply Kd.R_drew)); exact HO778.out))) (below_size (by repeat (first | (with_reducible first | exact HB.out | apply below_alloc | apply pw_below_drewN | apply below_drew1) | exact HB.out)))); have n2_ := Aside0.mk (below_step (by repeat (first | (with_reducible first | exact HB.out | apply below_alloc | apply pw_below_drewN | apply below_drew1) | exact HB.out)) hb); clear HO778; clear HB; have HO778 := n0_; have HO783 := n1_; have HB := n2_; clear n0_ n1_ n2_; (try clear hb); (try clear hb2); (try clear hk); (try clear hi); (try clear ho0)) | ((with_reducible refine gate_callee (f := 45) rfl ?_); refine goesL_ (some 37) rfl rfl Try.func45 (by kernel_rfl) rfl #[.int .i64 (l0.length : Int)] rfl (by (try simp only [List.map_toArray, List.map_cons, List.map_nil]); first | done | rfl | (simp only [List.length_drop, List.length_take]; rfl)) ?_; (with_reducible refine (stuff_Most.calls (l0.length : Int) t784 t785 _ A13.out).mono ?_); rintro e w' ⟨rfl, ⟨nd, rfl⟩⟩; refine ⟨_, rfl, ?_⟩; obtain ⟨Ao27, co27, eo27⟩ := Kd.R_slice HO783.out; subst eo27) | (go_at_call 42; (with_reducible refine (magnetolaw05_ints.calls kj2 _ _ t779 _ _ l0 true _ ?side1 ?side2 ?side3 ?side4 A16.out).mono ?_); (case side1 => repeat (first | exact (Kd.R_reads' HO783.out).2.2 | (with_reducible refine Kd.C_alloc ?_ _) | (with_reducible refine Kd.C_drewN ?_ _) | (with_reducible refine Kd.C_drew ?_))); (case side2 => exact (Kd.R_reads' HO783.out).2.1); (case side3 => repeat (first | exact (Kd.C_below HR0.out (by repeat (first | (with_reducible first | exact HB.out | apply below_alloc | apply pw_below_drewN | apply below_drew1) | exact HB.out))) | (with_reducible refine Kd.C_alloc ?_ _) | (with_reducible refine Kd.C_drewN ?_ _) | (with_reducible refine Kd.C_drew ?_))); (case side4 => exact HC0.out); rintro e w' ⟨rfl, ⟨nd, rfl⟩⟩) | (go_at_call 51; (with_reducible refine (bits_Longest.calls kj2 _ _ t776 t787 _ ?side1 ?side2 A18.out).mono ?_); (case side1 => repeat (first | exact (Kd.R_reads' HO778.out).2.2 | (with_reducible refine Kd.C_alloc ?_ _) | (with_reducible refine Kd.C_drewN ?_ _) | (with_reducible refine Kd.C_drew ?_))); (case side2 => exact (Kd.R_reads' HO778.out).2.1); rintro e w28 ⟨rfl, hb⟩; have n0_ := Aside0.mk (Kd.R_below (by (with_reducible repeat (first | apply Kd.R_alloc | apply Kd.R_drewN | apply Kd.R_drew)); exact HO778.out) hb); have n1_ := Aside0.mk (Kd.R_below (by (with_reducible repeat (first | apply Kd.R_alloc | apply Kd.R_drewN | apply Kd.R_drew)); exact HO783.out) hb); have n2_ := Aside0.mk (below_step (by repeat (first | (with_reducible first | exact HB.out | apply below_alloc | apply pw_below_drewN | apply below_drew1) | exact HB.out)) hb); clear HO778; clear HO783; clear HB; have HO778 := n0_; have HO783 := n1_; have HB := n2_; clear n0_ n1_ n2_; (try clear hb); (try clear hb2); (try clear hk); (try clear hi)) | (go_at_call 44; (with_reducible refine (stuff_Count.calls _ _ l0 t788 _ ?side1 ?side2 A22.out).mono ?_); (case side1 => repeat (first | exact (Kd.C_below HR0.out HB.out) | (with_reducible refine Kd.C_alloc ?_ _) | (with_reducible refine Kd.C_drewN ?_ _) | (with_reducible refine Kd.C_drew ?_))); (case side2 => exact HC0.out); rintro e w29 ⟨rfl, hb⟩; have n0_ := Aside0.mk (Kd.R_below (by (with_reducible repeat (first | apply Kd.R_alloc | apply Kd.R_drewN | apply Kd.R_drew)); exact HO778.out) hb); have n1_ := Aside0.mk (Kd.R_below (by (with_reducible repeat (first | apply Kd.R_alloc | apply Kd.R_drewN | apply Kd.R_drew)); exact HO783.out) hb); have n2_ := Aside0.mk (below_step (by repeat (first | (with_reducible first | exact HB.out | apply below_alloc | apply pw_below_drewN | apply below_drew1) | exact HB.out)) hb); clear HO778; clear HO783; clear HB; have HO778 := n0_; have HO783 := n1_; have HB := n2_; clear n0_ n1_ n2_; (try clear hb); (try clear hb2); (try clear hk); (try clear hi)))
             go_meet
             case rel => exact ⟨_, H', ⟨by have := HJ2.out; first | omega | exact Nat.le_refl _⟩, ⟨by repeat (first | (with_reducible first | exact HB.out | apply below_alloc | apply pw_below_drewN | apply below_drew1) | exact HB.out)⟩⟩
            ·
             rw [if_neg c23] at H
             exact absurd H (by simp)
          ·
           rw [if_neg c20] at H
           exact absurd H (by simp)
        ·
         replace c17 := Bool.eq_false_iff.mpr c17
         subst c17
         have H1 : (none) = some r := by rw [if_neg (show ¬ (false = true) by decide)] at H; exact H
         clear H
         have H := H1
         clear H1
         exact absurd H (by simp)
       ·
        rw [if_neg c15] at H
        exact absurd H (by simp)
      ·
       rw [if_neg c14] at H
       exact absurd H (by simp)
     ·
      rw [if_neg c10] at H
      have c10b0 : decide (t775 < 0) = false := decide_eq_false c10
      clear c10
      (first | rw [c10b0] | (simp only [i64_w, i32_w]; rw [c10b0]) | skip)
      replace H := Option.bind_eq_some_iff.mp H
      obtain ⟨t789, A300, H⟩ := H
      replace H : (if (t789.length : Int) = 0 then (magnetolaw05_StuffBack.j1 kj2 l1) else (none)) = some r := H
      have A30 := Aside0.mk A300
      clear A300
      by_cases c31 : (t789.length : Int) = 0
      ·
       rw [if_pos c31] at H
       have c31b0 : ((t789.length : Int) == 0) = true := beq_iff_eq.mpr c31
       have c31b1 : ((t789.length : Int) != 0) = false := bne_eq_false_iff_eq.mpr c31
       clear c31
       have H' := Aside0.mk H
       clear H
       go_wp2_with (first | ((with_reducible refine gate_callee (f := 43) rfl ?_); refine goesL_ (some 81) rfl rfl Try.func43 (by kernel_rfl) rfl #[.slice A0 l0.length c0] rfl (by (try simp only [List.map_toArray, List.map_cons, List.map_nil]); first | done | rfl | (simp only [List.length_drop, List.length_take]; rfl)) ?_; (with_reducible refine (stuff_Add.calls _ _ l0 t789 _ ?side1 ?side2 A30.out).mono ?_); (case side1 => repeat (first | exact (Kd.C_below HR0.out HB.out) | (with_reducible refine Kd.C_alloc ?_ _) | (with_reducible refine Kd.C_drewN ?_ _) | (with_reducible refine Kd.C_drew ?_))); (case side2 => exact HC0.out); rintro e w32 ⟨v790, rfl, ho0, hb⟩; refine ⟨_, rfl, ?_⟩; have n0_ := Aside0.mk (Kd.R_lower ho0 (below_size (by repeat (first | (with_reducible first | exact HB.out | apply below_alloc | apply pw_below_drewN | apply below_drew1) | exact HB.out)))); have n1_ := Aside0.mk (below_step (by repeat (first | (with_reducible first | exact HB.out | apply below_alloc | apply pw_below_drewN | apply below_drew1) | exact HB.out)) hb); clear HB; have HO791 := n0_; have HB := n1_; clear n0_ n1_; (try clear hb); (try clear hb2); (try clear hk); (try clear hi); (try clear ho0); obtain ⟨Ao33, co33, eo33⟩ := Kd.R_slice HO791.out; subst eo33))
       go_meet
       case rel => exact ⟨_, H', ⟨by have := HJ2.out; first | omega | exact Nat.le_refl _⟩, ⟨by repeat (first | (with_reducible first | exact HB.out | apply below_alloc | apply pw_below_drewN | apply below_drew1) | exact HB.out)⟩⟩
      ·
       rw [if_neg c31] at H
       exact absurd H (by simp)
    case rest =>
     clear HC9
     try clear c1
     try clear c2
     try clear p2
     try clear c3
     try clear c4
     try clear c4b0
     try clear c4b1
     try clear c5
     try clear p6
     try clear c10
     try clear c10b0
     try clear c14
     try clear c14b0
     try clear c14b1
     try clear c15
     try clear c15b0
     try clear c15b1
     try clear c17
     try clear c18
     try clear c19
     try clear c19b0
     try clear c20
     try clear c20b0
     try clear c20b1
     try clear c21
     try clear c21b0
     try clear c23
     try clear c23b0
     try clear c23b1
     try clear c31
     try clear c31b0
     try clear c31b1
     try clear c32
     try clear p2
     obtain ⟨kq, HA, HJ8, HB⟩ := hcut
     cases kq with
     | zero => exact absurd HA.out (by simp [magnetolaw05_StuffBack.j1])
     | succ kj8 =>
      have H := HA.out
      clear HA
      simp only [magnetolaw05_StuffBack.j1] at H
      replace H := Option.bind_eq_some_iff.mp H
      obtain ⟨⟨t792, t793, t794⟩, A340, H⟩ := H
      replace H : (if t794 = 0 then ((stuff_Add.f t792).bind fun t797 => ((magnetolaw05_ints.f kj8 t797 l1).bind fun t800 => (if t800 = true then ((magnetolaw05_awake.f kj8).bind fun t801 => (some t801)) else (none)))) else (if (t792.length : Int) = 0 then (if t793 ≥ 0 then (if t793 ≤ (l1.length : Int) then ((magnetolaw05_awake.f kj8).bind fun t802 => (some t802)) else (none)) else (none)) else (none))) = some r := H
      have A34 := Aside0.mk A340
      clear A340
      by_cases c35 : t794 = 0
      ·
       rw [if_pos c35] at H
       have c35b0 : (t794 == 0) = true := beq_iff_eq.mpr c35
       have c35b1 : (t794 != 0) = false := bne_eq_false_iff_eq.mpr c35
       clear c35
       replace H := Option.bind_eq_some_iff.mp H
       obtain ⟨t797, A360, H⟩ := H
       replace H : ((magnetolaw05_ints.f kj8 t797 l1).bind fun t800 => (if t800 = true then ((magnetolaw05_awake.f kj8).bind fun t801 => (some t801)) else (none))) = some r := H
       have A36 := Aside0.mk A360
       clear A360
       replace H := Option.bind_eq_some_iff.mp H
       obtain ⟨t800, A370, H⟩ := H
       replace H : (if t800 = true then ((magnetolaw05_awake.f kj8).bind fun t801 => (some t801)) else (none)) = some r := H
       have A37 := Aside0.mk A370
       clear A370
       by_cases c38 : t800 = true
       ·
        subst c38
        have H1 : ((magnetolaw05_awake.f kj8).bind fun t801 => (some t801)) = some r := by rw [if_pos rfl] at H; exact H
        clear H
        have H := H1
        clear H1
        replace H := Option.bind_eq_some_iff.mp H
        obtain ⟨t801, A390, H⟩ := H
        replace H : (some t801) = some r := H
        have A39 := Aside0.mk A390
        clear A390
        obtain rfl := Option.some.inj H
        go_wp2_with (first | ((with_reducible refine gate_callee (f := 46) rfl ?_); refine goesL_ (some 86) rfl rfl Try.func46 (by kernel_rfl) rfl #[.slice A1 l1.length c1] rfl (by (try simp only [List.map_toArray, List.map_cons, List.map_nil]); first | done | rfl | (simp only [List.length_drop, List.length_take]; rfl)) ?_; (with_reducible refine (stuff_Take.calls kj8 _ _ l1 t792 t793 t794 _ ?side1 ?side2 A34.out).mono ?_); (case side1 => repeat (first | exact (Kd.C_below HR1.out HB.out) | (with_reducible refine Kd.C_alloc ?_ _) | (with_reducible refine Kd.C_drewN ?_ _) | (with_reducible refine Kd.C_drew ?_))); (case side2 => exact HC1.out); rintro e w40 ⟨v795, rfl, ho0, hb⟩; refine ⟨_, rfl, ?_⟩; have n0_ := Aside0.mk (Kd.R_lower ho0 (below_size (by repeat (first | (with_reducible first | exact HB.out | apply below_alloc | apply pw_below_drewN | apply below_drew1) | exact HB.out)))); have n1_ := Aside0.mk (below_step (by repeat (first | (with_reducible first | exact HB.out | apply below_alloc | apply pw_below_drewN | apply below_drew1) | exact HB.out)) hb); clear HB; have HO796 := n0_; have HB := n1_; clear n0_ n1_; (try clear hb); (try clear hb2); (try clear hk); (try clear hi); (try clear ho0); obtain ⟨Ao41, co41, eo41⟩ := Kd.R_slice HO796.out; subst eo41) | ((with_reducible refine gate_callee (f := 43) rfl ?_); refine goesL_ (some 109) rfl rfl Try.func43 (by kernel_rfl) rfl #[.slice Ao41 t792.length co41] rfl (by (try simp only [List.map_toArray, List.map_cons, List.map_nil]); first | done | rfl | (simp only [List.length_drop, List.length_take]; rfl)) ?_; (with_reducible refine (stuff_Add.calls _ _ t792 t797 _ ?side1 ?side2 A36.out).mono ?_); (case side1 => repeat (first | exact (Kd.R_reads' HO796.out).2.2 | (with_reducible refine Kd.C_alloc ?_ _) | (with_reducible refine Kd.C_drewN ?_ _) | (with_reducible refine Kd.C_drew ?_))); (case side2 => exact (Kd.R_reads' HO796.out).2.1); rintro e w42 ⟨v798, rfl, ho0, hb⟩; refine ⟨_, rfl, ?_⟩; have n0_ := Aside0.mk (Kd.R_elder' (by (with_reducible repeat (first | apply Kd.R_alloc | apply Kd.R_drewN | apply Kd.R_drew)); exact HO796.out) (Kd.R_base ho0) hb); have n1_ := Aside0.mk (Kd.R_lower (Kd.R_new' ho0 (Kd.R_lt (by (with_reducible repeat (first | apply Kd.R_alloc | apply Kd.R_drewN | apply Kd.R_drew)); exact HO796.out))) (below_size (by repeat (first | (with_reducible first | exact HB.out | apply below_alloc | apply pw_below_drewN | apply below_drew1) | exact HB.out)))); have n2_ := Aside0.mk (below_step (by repeat (first | (with_reducible first | exact HB.out | apply below_alloc | apply pw_below_drewN | apply below_drew1) | exact HB.out)) hb); clear HO796; clear HB; have HO796 := n0_; have HO799 := n1_; have HB := n2_; clear n0_ n1_ n2_; (try clear hb); (try clear hb2); (try clear hk); (try clear hi); (try clear ho0); obtain ⟨Ao43, co43, eo43⟩ := Kd.R_slice HO799.out; subst eo43) | ((with_reducible refine gate_callee (f := 42) rfl ?_); refine goesL_ (some 111) rfl rfl Try.func42 (by kernel_rfl) rfl #[.slice Ao43 t797.length co43, .slice A1 l1.length c1] rfl (by (try simp only [List.map_toArray, List.map_cons, List.map_nil]); first | done | rfl | (simp only [List.length_drop, List.length_take]; rfl)) ?_; (with_reducible refine (magnetolaw05_ints.calls kj8 _ _ t797 _ _ l1 true _ ?side1 ?side2 ?side3 ?side4 A37.out).mono ?_); (case side1 => repeat (first | exact (Kd.R_reads' HO799.out).2.2 | (with_reducible refine Kd.C_alloc ?_ _) | (with_reducible refine Kd.C_drewN ?_ _) | (with_reducible refine Kd.C_drew ?_))); (case side2 => exact (Kd.R_reads' HO799.out).2.1); (case side3 => repeat (first | exact (Kd.C_below HR1.out HB.out) | (with_reducible refine Kd.C_alloc ?_ _) | (with_reducible refine Kd.C_drewN ?_ _) | (with_reducible refine Kd.C_drew ?_))); (case side4 => exact HC1.out); rintro e w' ⟨rfl, ⟨nd, rfl⟩⟩; refine ⟨_, rfl, ?_⟩) | (go_at_call 40; (with_reducible refine (magnetolaw05_awake.calls kj8  t801 _ A39.out).mono ?_); rintro e w44 ⟨rfl, hb⟩; have n0_ := Aside0.mk (Kd.R_below (by (with_reducible repeat (first | apply Kd.R_alloc | apply Kd.R_drewN | apply Kd.R_drew)); exact HO796.out) hb); have n1_ := Aside0.mk (Kd.R_below (by (with_reducible repeat (first | apply Kd.R_alloc | apply Kd.R_drewN | apply Kd.R_drew)); exact HO799.out) hb); have n2_ := Aside0.mk (below_step (by repeat (first | (with_reducible first | exact HB.out | apply below_alloc | apply pw_below_drewN | apply below_drew1) | exact HB.out)) hb); clear HO796; clear HO799; clear HB; have HO796 := n0_; have HO799 := n1_; have HB := n2_; clear n0_ n1_ n2_; (try clear hb); (try clear hb2); (try clear hk); (try clear hi)))
        go_ret
        exact ⟨by first | rfl | (simp [errW_none, errW_some] <;> rfl) | (simp [*, errW_none, errW_some] <;> rfl), by repeat (first | (with_reducible first | exact HB.out | apply below_alloc | apply pw_below_drewN | apply below_drew1) | exact HB.out)⟩
       ·
        replace c38 := Bool.eq_false_iff.mpr c38
        subst c38
        have H1 : (none) = some r := by rw [if_neg (show ¬ (false = true) by decide)] at H; exact H
        clear H
        have H := H1
        clear H1
        exact absurd H (by simp)
      ·
       rw [if_neg c35] at H
       have c35b0 : (t794 == 0) = false := beq_eq_false_iff_ne.mpr c35
       have c35b1 : (t794 != 0) = true := bne_iff_ne.mpr c35
       by_cases c45 : (t792.length : Int) = 0
       ·
        rw [if_pos c45] at H
        have c45b0 : ((t792.length : Int) == 0) = true := beq_iff_eq.mpr c45
        have c45b1 : ((t792.length : Int) != 0) = false := bne_eq_false_iff_eq.mpr c45
        clear c45
        by_cases c46 : t793 ≥ 0
        ·
         rw [if_pos c46] at H
         have c46b0 : decide (0 ≤ t793) = true := decide_eq_true c46
         clear c46
         by_cases c47 : t793 ≤ (l1.length : Int)
         ·
          rw [if_pos c47] at H
          have c47b0 : decide (t793 ≤ (l1.length : Int)) = true := decide_eq_true c47
          clear c47
          replace H := Option.bind_eq_some_iff.mp H
          obtain ⟨t802, A480, H⟩ := H
          replace H : (some t802) = some r := H
          have A48 := Aside0.mk A480
          clear A480
          obtain rfl := Option.some.inj H
          go_wp2_with (first | ((with_reducible refine gate_callee (f := 46) rfl ?_); refine goesL_ (some 86) rfl rfl Try.func46 (by kernel_rfl) rfl #[.slice A1 l1.length c1] rfl (by (try simp only [List.map_toArray, List.map_cons, List.map_nil]); first | done | rfl | (simp only [List.length_drop, List.length_take]; rfl)) ?_; (with_reducible refine (stuff_Take.calls kj8 _ _ l1 t792 t793 t794 _ ?side1 ?side2 A34.out).mono ?_); (case side1 => repeat (first | exact (Kd.C_below HR1.out HB.out) | (with_reducible refine Kd.C_alloc ?_ _) | (with_reducible refine Kd.C_drewN ?_ _) | (with_reducible refine Kd.C_drew ?_))); (case side2 => exact HC1.out); rintro e w49 ⟨v795, rfl, ho0, hb⟩; refine ⟨_, rfl, ?_⟩; have n0_ := Aside0.mk (Kd.R_lower ho0 (below_size (by repeat (first | (with_reducible first | exact HB.out | apply below_alloc | apply pw_below_drewN | apply below_drew1) | exact HB.out)))); have n1_ := Aside0.mk (below_step (by repeat (first | (with_reducible first | exact HB.out | apply below_alloc | apply pw_below_drewN | apply below_drew1) | exact HB.out)) hb); clear HB; have HO796 := n0_; have HB := n1_; clear n0_ n1_; (try clear hb); (try clear hb2); (try clear hk); (try clear hi); (try clear ho0); obtain ⟨Ao50, co50, eo50⟩ := Kd.R_slice HO796.out; subst eo50) | (go_at_call 40; (with_reducible refine (magnetolaw05_awake.calls kj8  t802 _ A48.out).mono ?_); rintro e w51 ⟨rfl, hb⟩; have n0_ := Aside0.mk (Kd.R_below (by (with_reducible repeat (first | apply Kd.R_alloc | apply Kd.R_drewN | apply Kd.R_drew)); exact HO796.out) hb); have n1_ := Aside0.mk (below_step (by repeat (first | (with_reducible first | exact HB.out | apply below_alloc | apply pw_below_drewN | apply below_drew1) | exact HB.out)) hb); clear HO796; clear HB; have HO796 := n0_; have HB := n1_; clear n0_ n1_; (try clear hb); (try clear hb2); (try clear hk); (try clear hi)))
          go_ret
          exact ⟨by first | rfl | (simp [errW_none, errW_some] <;> rfl) | (simp [*, errW_none, errW_some] <;> rfl), by repeat (first | (with_reducible first | exact HB.out | apply below_alloc | apply pw_below_drewN | apply below_drew1) | exact HB.out)⟩
         ·
          rw [if_neg c47] at H
          exact absurd H (by simp)
        ·
         rw [if_neg c46] at H
         exact absurd H (by simp)
       ·
        rw [if_neg c45] at H
        exact absurd H (by simp)

/-- THE ONE PURE STATEMENT of magnetolaw05_StuffBack: yours. -/
def magnetolaw05_StuffBack.Pure : Prop := ∀ (l0 : List Int) (l1 : List Int), l0.length ≤ maxLen → l0.length * 8 ≤ 140737488351232 → (∀ x ∈ l0, (Lit.int .i64 x).wf = true) → l1.length ≤ maxLen → l1.length * 8 ≤ 140737488351232 → (∀ x ∈ l1, (Lit.int .i64 x).wf = true) → ∃ k, magnetolaw05_StuffBack.f k l0 l1 = some true
theorem magnetolaw05_StuffBack.walk (P : magnetolaw05_StuffBack.Pure) (a0 : Option Addr) (len0 cap0 : Nat) (z0 : List Int) (a1 : Option Addr) (len1 cap1 : Nat) (z1 : List Int) (w : World) (w0 : (a0 = none ∧ len0 = 0 ∧ cap0 = 0 ∧ z0 = []) ∨ ∃ x, a0 = some x ∧ len0 ≤ cap0 ∧ cap0 ≤ maxLen ∧ z0.length = cap0 ∧ (∀ i, i < z0.length → w.cell? (x.add i) = some (.int .i64 (z0.getD i 0))) ∧ ∀ n ∈ z0, (Lit.int .i64 n).wf = true) (y0 : len0 * 8 ≤ 140737488351232) (w1 : (a1 = none ∧ len1 = 0 ∧ cap1 = 0 ∧ z1 = []) ∨ ∃ x, a1 = some x ∧ len1 ≤ cap1 ∧ cap1 ≤ maxLen ∧ z1.length = cap1 ∧ (∀ i, i < z1.length → w.cell? (x.add i) = some (.int .i64 (z1.getD i 0))) ∧ ∀ n ∈ z1, (Lit.int .i64 n).wf = true) (y1 : len1 * 8 ≤ 140737488351232) :
  Calls Try.prog 18 #[.slice a0 len0 cap0, .slice a1 len1 cap1] w fun e w' => e = .returned (.bool true) ∧ Below w.heap.size w w' := by
 obtain ⟨l0, rfl, hr0, hm0, hw0, hc0⟩ := ReadsInt.ofRowC w0
 obtain ⟨l1, rfl, hr1, hm1, hw1, hc1⟩ := ReadsInt.ofRowC w1
 obtain ⟨k, h⟩ := P l0 l1 hm0 y0 hw0 hm1 y1 hw1
 refine (magnetolaw05_StuffBack.calls k _ _ l0 _ _ l1 true w (Kd.C_of_reads (d := (0 : Int)) (h1 := fun _ => rfl) hr0) hc0 (Kd.C_of_reads (d := (0 : Int)) (h1 := fun _ => rfl) hr1) hc1 h).mono ?_
 rintro e w' ⟨rfl, hd⟩
 exact ⟨rfl, hd⟩

/-! ### magnetoref05_Take: function 52 -/
def magnetoref05_Take.l0 : Nat → List Int → List Int → Int → Option (List Int × Int × Int)
 | 0, _, _, _ => none
 | k + 1, x0, x6, x7 => if x7 < (x0.length : Int) then (if 0 ≤ x7 then (if x7 ≤ (x0.length : Int) then ((magnetoref05_Five.f k (x0.take (x7 : Int).toNat)).bind fun t809 => (if t809 = true then (if 0 ≤ (wrap64 (x7 - 1)) then (if (wrap64 (x7 - 1)) < (x0.length : Int) then (if (rd x0 x7) = (rd x0 (wrap64 (x7 - 1))) then (some (([] : List Int), x7, 17)) else (magnetoref05_Take.l0 k x0 x6 (wrap64 (x7 + 1)))) else (none)) else (none)) else (if x6.length < 17592186044416 then (magnetoref05_Take.l0 k x0 (x6 ++ [rd x0 x7]) (wrap64 (x7 + 1))) else (none)))) else (none)) else (none)) else ((magnetoref05_Five.f k x0).bind fun t807 => (if t807 = true then (some (([] : List Int), (x0.length : Int), 13)) else (some (x6, 0, 0))))
def magnetoref05_Take.f (k : Nat) (l0 : List Int) : Option (List Int × Int × Int) := (magnetoref01_Check.f k l0).bind fun t803 => (if t803 ≥ 0 then (some (([] : List Int), t803, 10)) else (magnetoref05_Take.l0 k l0 (([] : List Int)) 0))
theorem magnetoref05_Take.mono_l : ∀ k, (∀ y0 y1 y2, LeO (magnetoref05_Take.l0 k y0 y1 y2) (magnetoref05_Take.l0 (k + 1) y0 y1 y2))
 | 0 => fun _ _ _ r h => by simp [magnetoref05_Take.l0] at h
 | k + 1 => by
  have ih0 := magnetoref05_Take.mono_l k
  ·
   intro y0 y1 y2
   unfold magnetoref05_Take.l0
   repeat' first
   | (with_reducible exact ih0 _ _ _)
   | (with_reducible exact magnetoref01_Check.mono _ _)
   | (with_reducible exact magnetoref05_Five.mono _ _)
   | (with_reducible exact LeO.refl _)
   | (with_reducible exact LeO.none _)
   | (with_reducible refine LeO.ite ?_ ?_)
   | (with_reducible refine LeO.bind ?_ (fun _ => ?_))
   | exact ih0 _ _ _
   | exact magnetoref01_Check.mono _ _
   | exact magnetoref05_Five.mono _ _
   | exact LeO.none _
   | refine LeO.ite ?_ ?_
   | refine LeO.bind ?_ (fun _ => ?_)
theorem magnetoref05_Take.mono : ∀ a0 k, LeO (magnetoref05_Take.f k a0) (magnetoref05_Take.f (k + 1) a0) := by
 intro a0 k
 have ih0 := magnetoref05_Take.mono_l k
 unfold magnetoref05_Take.f
 repeat' first
   | (with_reducible exact ih0 _ _ _)
   | (with_reducible exact magnetoref01_Check.mono _ _)
   | (with_reducible exact magnetoref05_Five.mono _ _)
   | (with_reducible exact LeO.refl _)
   | (with_reducible exact LeO.none _)
   | (with_reducible refine LeO.ite ?_ ?_)
   | (with_reducible refine LeO.bind ?_ (fun _ => ?_))
   | exact ih0 _ _ _
   | exact magnetoref01_Check.mono _ _
   | exact magnetoref05_Five.mono _ _
   | exact LeO.none _
   | refine LeO.ite ?_ ?_
   | refine LeO.bind ?_ (fun _ => ?_)
set_option maxHeartbeats 8000000 in
set_option maxRecDepth 100000 in
theorem magnetoref05_Take.calls (k : Nat) (A0 : Option Addr) (c0 : Nat) (l0 : List Int) (r1 : List Int) (r2 : Int) (r3 : Int) (w : World) (hr0 : Kd.C (Kd.int .i64) w A0 l0.length l0) (hc0 : l0.length ≤ c0) (h : magnetoref05_Take.f k l0 = some (r1, r2, r3)) :
  Calls Try.prog 52 #[.slice A0 l0.length c0] w fun e w' => ∃ v0_ : Value, e = .returned (.tuple #[v0_, .int .i64 r2, .int .i64 r3]) ∧ Kd.R (Kd.int .i64) 3 w' w.heap.size (fun _ => True) v0_ r1 ∧ Below w.heap.size w w' := by
 have HR0 := Aside0.mk hr0
 have HC0 := Aside0.mk hc0
 clear hr0 hc0
 have HB := Aside0.mk (Below.refl w.heap.size w)
 have H : ((magnetoref01_Check.f k l0).bind fun t803 => (if t803 ≥ 0 then (some (([] : List Int), t803, 10)) else (magnetoref05_Take.l0 k l0 (([] : List Int)) 0))) = some (r1, r2, r3) := h
 clear h
 replace H := Option.bind_eq_some_iff.mp H
 obtain ⟨t803, A20, H⟩ := H
 replace H : (if t803 ≥ 0 then (some (([] : List Int), t803, 10)) else (magnetoref05_Take.l0 k l0 (([] : List Int)) 0)) = some (r1, r2, r3) := H
 have A2 := Aside0.mk A20
 clear A20
 by_cases c3 : t803 ≥ 0
 ·
  rw [if_pos c3] at H
  have c3b0 : decide (0 ≤ t803) = true := decide_eq_true c3
  clear c3
  simp only [Option.some.injEq, Prod.mk.injEq] at H
  obtain ⟨rfl, rfl, rfl⟩ := H
  go_enter Try.func52, Try.ntmps52
  go_wp2_with (first | (go_at_call 30; (with_reducible refine (magnetoref01_Check.calls k _ _ l0 t803 _ ?side1 ?side2 A2.out).mono ?_); (case side1 => repeat (first | exact HR0.out | (with_reducible refine Kd.C_alloc ?_ _) | (with_reducible refine Kd.C_drewN ?_ _) | (with_reducible refine Kd.C_drew ?_))); (case side2 => exact HC0.out); rintro e w' ⟨rfl, ⟨nd, rfl⟩⟩; (try first | exact ⟨rfl, _, World.drewN_drewN _ _ _⟩ | exact ⟨rfl, _, Eq.trans (World.drewN_drewN _ _ _) (congrArg (World.drewN _) (Nat.add_assoc _ _ _))⟩)))
  repeat (go_quiet (first | (go_at_call 30; (with_reducible refine (magnetoref01_Check.calls k _ _ l0 t803 _ ?side1 ?side2 A2.out).mono ?_); (case side1 => repeat (first | exact HR0.out | (with_reducible refine Kd.C_alloc ?_ _) | (with_reducible refine Kd.C_drewN ?_ _) | (with_reducible refine Kd.C_drew ?_))); (case side2 => exact HC0.out); rintro e w' ⟨rfl, ⟨nd, rfl⟩⟩; (try first | exact ⟨rfl, _, World.drewN_drewN _ _ _⟩ | exact ⟨rfl, _, Eq.trans (World.drewN_drewN _ _ _) (congrArg (World.drewN _) (Nat.add_assoc _ _ _))⟩))); try go_wp2_with (first | (go_at_call 30; (with_reducible refine (magnetoref01_Check.calls k _ _ l0 t803 _ ?side1 ?side2 A2.out).mono ?_); (case side1 => repeat (first | exact HR0.out | (with_reducible refine Kd.C_alloc ?_ _) | (with_reducible refine Kd.C_drewN ?_ _) | (with_reducible refine Kd.C_drew ?_))); (case side2 => exact HC0.out); rintro e w' ⟨rfl, ⟨nd, rfl⟩⟩; (try first | exact ⟨rfl, _, World.drewN_drewN _ _ _⟩ | exact ⟨rfl, _, Eq.trans (World.drewN_drewN _ _ _) (congrArg (World.drewN _) (Nat.add_assoc _ _ _))⟩))))
  go_ret3
  exact ⟨_, by first | rfl | (simp [errW_none, errW_some] <;> rfl) | (simp [*, errW_none, errW_some] <;> rfl), by first | exact Kd.R_nil _ _ _ _ _ | exact Kd.N_nil _ _ _ _ _ | exact Kd.V_nil _ _ _ _ _ | exact Kd.Q_nil _ _ _ _ _ | exact Kd.S_nil _ _ _ _ _, by repeat (first | (with_reducible first | exact HB.out | apply below_alloc | apply pw_below_drewN | apply below_drew1) | exact HB.out)⟩
 ·
  rw [if_neg c3] at H
  have c3b0 : decide (0 ≤ t803) = false := decide_eq_false c3
  clear c3
  obtain ⟨y804, hy804⟩ : ∃ y_ : List Int, y_ = (([] : List Int)) := ⟨_, rfl⟩
  replace H : (magnetoref05_Take.l0 k l0 y804 0) = some (r1, r2, r3) := by first | (rw [hy804]; with_reducible exact H) | (have H2_ := (Option.bind_some _ _).symm.trans H; rw [hy804]; with_reducible exact H2_) | (have H2_ := (Option.bind_some _ _).symm.trans H; with_reducible exact H2_) | with_reducible exact H | (rw [hy804]; exact H) | exact H
  have Ny804 := Aside0.mk hy804
  clear hy804
  have H' := Aside0.mk H
  clear H
  go_enter Try.func52, Try.ntmps52
  go_wp2_with (first | (go_at_call 30; (with_reducible refine (magnetoref01_Check.calls k _ _ l0 t803 _ ?side1 ?side2 A2.out).mono ?_); (case side1 => repeat (first | exact HR0.out | (with_reducible refine Kd.C_alloc ?_ _) | (with_reducible refine Kd.C_drewN ?_ _) | (with_reducible refine Kd.C_drew ?_))); (case side2 => exact HC0.out); rintro e w' ⟨rfl, ⟨nd, rfl⟩⟩; (try first | exact ⟨rfl, _, World.drewN_drewN _ _ _⟩ | exact ⟨rfl, _, Eq.trans (World.drewN_drewN _ _ _) (congrArg (World.drewN _) (Nat.add_assoc _ _ _))⟩)) | ((with_reducible refine gate_dst (N := 13) rfl ?_); refine Kd.R_lit (Kd.int .i64) _ 3 ?hg (N := 13) ?hd (xs := ([] : List Int)) (inner := []) (ok := fun _ => True) (okp := fun _ => True) ?hr ?hp (fun _ hk => hk) trivial (Below.refl _ _) (Nat.le_refl _) (by simp) ?_; (case hd => rfl); (case hg => rfl); (case hr => first | (go_simp; done) | (go_simp; rfl)); (case hp => exact (Reps.none _ _)); intro v805 w4 ho5 hb hg_ hnew_; clear hg_ hnew_; (first | rw [← Ny804.out] at ho5 | (simp only [Int.reduceToNat] at ho5; rw [← Ny804.out] at ho5)); have n0_ := Aside0.mk (Kd.R_lower ho5 (below_size (by repeat (first | (with_reducible first | exact HB.out | apply below_alloc | apply pw_below_drewN | apply below_drew1) | exact HB.out)))); have n1_ := Aside0.mk (below_step (by repeat (first | (with_reducible first | exact HB.out | apply below_alloc | apply pw_below_drewN | apply below_drew1) | exact HB.out)) hb); clear HB; have HO806 := n0_; have HB := n1_; clear n0_ n1_; clear hb ho5))
  repeat (go_quiet (first | (go_at_call 30; (with_reducible refine (magnetoref01_Check.calls k _ _ l0 t803 _ ?side1 ?side2 A2.out).mono ?_); (case side1 => repeat (first | exact HR0.out | (with_reducible refine Kd.C_alloc ?_ _) | (with_reducible refine Kd.C_drewN ?_ _) | (with_reducible refine Kd.C_drew ?_))); (case side2 => exact HC0.out); rintro e w' ⟨rfl, ⟨nd, rfl⟩⟩; (try first | exact ⟨rfl, _, World.drewN_drewN _ _ _⟩ | exact ⟨rfl, _, Eq.trans (World.drewN_drewN _ _ _) (congrArg (World.drewN _) (Nat.add_assoc _ _ _))⟩)) | ((with_reducible refine gate_dst (N := 13) rfl ?_); refine Kd.R_lit (Kd.int .i64) _ 3 ?hg (N := 13) ?hd (xs := ([] : List Int)) (inner := []) (ok := fun _ => True) (okp := fun _ => True) ?hr ?hp (fun _ hk => hk) trivial (Below.refl _ _) (Nat.le_refl _) (by simp) ?_; (case hd => rfl); (case hg => rfl); (case hr => first | (go_simp; done) | (go_simp; rfl)); (case hp => exact (Reps.none _ _)); intro v805 w4 ho5 hb hg_ hnew_; clear hg_ hnew_; (first | rw [← Ny804.out] at ho5 | (simp only [Int.reduceToNat] at ho5; rw [← Ny804.out] at ho5)); have n0_ := Aside0.mk (Kd.R_lower ho5 (below_size (by repeat (first | (with_reducible first | exact HB.out | apply below_alloc | apply pw_below_drewN | apply below_drew1) | exact HB.out)))); have n1_ := Aside0.mk (below_step (by repeat (first | (with_reducible first | exact HB.out | apply below_alloc | apply pw_below_drewN | apply below_drew1) | exact HB.out)) hb); clear HB; have HO806 := n0_; have HB := n1_; clear n0_ n1_; clear hb ho5)); try go_wp2_with (first | (go_at_call 30; (with_reducible refine (magnetoref01_Check.calls k _ _ l0 t803 _ ?side1 ?side2 A2.out).mono ?_); (case side1 => repeat (first | exact HR0.out | (with_reducible refine Kd.C_alloc ?_ _) | (with_reducible refine Kd.C_drewN ?_ _) | (with_reducible refine Kd.C_drew ?_))); (case side2 => exact HC0.out); rintro e w' ⟨rfl, ⟨nd, rfl⟩⟩; (try first | exact ⟨rfl, _, World.drewN_drewN _ _ _⟩ | exact ⟨rfl, _, Eq.trans (World.drewN_drewN _ _ _) (congrArg (World.drewN _) (Nat.add_assoc _ _ _))⟩)) | ((with_reducible refine gate_dst (N := 13) rfl ?_); refine Kd.R_lit (Kd.int .i64) _ 3 ?hg (N := 13) ?hd (xs := ([] : List Int)) (inner := []) (ok := fun _ => True) (okp := fun _ => True) ?hr ?hp (fun _ hk => hk) trivial (Below.refl _ _) (Nat.le_refl _) (by simp) ?_; (case hd => rfl); (case hg => rfl); (case hr => first | (go_simp; done) | (go_simp; rfl)); (case hp => exact (Reps.none _ _)); intro v805 w4 ho5 hb hg_ hnew_; clear hg_ hnew_; (first | rw [← Ny804.out] at ho5 | (simp only [Int.reduceToNat] at ho5; rw [← Ny804.out] at ho5)); have n0_ := Aside0.mk (Kd.R_lower ho5 (below_size (by repeat (first | (with_reducible first | exact HB.out | apply below_alloc | apply pw_below_drewN | apply below_drew1) | exact HB.out)))); have n1_ := Aside0.mk (below_step (by repeat (first | (with_reducible first | exact HB.out | apply below_alloc | apply pw_below_drewN | apply below_drew1) | exact HB.out)) hb); clear HB; have HO806 := n0_; have HB := n1_; clear n0_ n1_; clear hb ho5)))
  go_loopg [6, 7] k (fun kq v6 v7 w' => ∃ (x6_1 : List Int) (x7_1 : Int), v7 = .int .i64 x7_1 ∧ Aside0 (magnetoref05_Take.l0 kq l0 x6_1 x7_1 = some (r1, r2, r3)) ∧ Aside0 (kq ≤ k) ∧ Aside0 (Kd.R (Kd.int .i64) 3 w' w.heap.size (fun _ => True) v6 x6_1) ∧ Aside0 (Below w.heap.size w w'))
  case atStart => exact ⟨(y804), (0), (by first | rfl | (simp; done) | (simp [*]; done)), H', ⟨Nat.le_refl _⟩, ⟨by (with_reducible repeat (first | apply Kd.R_alloc | apply Kd.R_drewN | apply Kd.R_drew)); exact HO806.out⟩, ⟨by repeat (first | (with_reducible first | exact HB.out | apply below_alloc | apply pw_below_drewN | apply below_drew1) | exact HB.out)⟩⟩
  case round =>
   clear H'
   try clear p2
   try clear c3
   try clear c3b0
   try clear c5
   obtain ⟨x6_1, x7_1, rfl, HA, HK1, HO_6, HB⟩ := hrel
   cases gk with
   | zero => exact absurd HA.out (by simp [magnetoref05_Take.l0])
   | succ k1 =>
    have H := HA.out
    clear HA
    simp only [magnetoref05_Take.l0] at H
    by_cases c6 : x7_1 < (l0.length : Int)
    ·
     rw [if_pos c6] at H
     have c6b0 : decide (x7_1 < (l0.length : Int)) = true := decide_eq_true c6
     clear c6
     by_cases c7 : 0 ≤ x7_1
     ·
      rw [if_pos c7] at H
      have c7b0 := eq_true c7
      have c7b1 : decide (0 ≤ x7_1) = true := decide_eq_true c7
      clear c7
      by_cases c8 : x7_1 ≤ (l0.length : Int)
      ·
       rw [if_pos c8] at H
       have c8b0 := eq_true c8
       have c8b1 : decide (x7_1 ≤ (l0.length : Int)) = true := decide_eq_true c8
       clear c8
       replace H := Option.bind_eq_some_iff.mp H
       obtain ⟨t809, A90, H⟩ := H
       replace H : (if t809 = true then (if 0 ≤ (wrap64 (x7_1 - 1)) then (if (wrap64 (x7_1 - 1)) < (l0.length : Int) then (if (rd l0 x7_1) = (rd l0 (wrap64 (x7_1 - 1))) then (some (([] : List Int), x7_1, 17)) else (magnetoref05_Take.l0 k1 l0 x6_1 (wrap64 (x7_1 + 1)))) else (none)) else (none)) else (if x6_1.length < 17592186044416 then (magnetoref05_Take.l0 k1 l0 (x6_1 ++ [rd l0 x7_1]) (wrap64 (x7_1 + 1))) else (none))) = some (r1, r2, r3) := H
       have A9 := Aside0.mk A90
       clear A90
       by_cases c10 : t809 = true
       ·
        subst c10
        have H1 : (if 0 ≤ (wrap64 (x7_1 - 1)) then (if (wrap64 (x7_1 - 1)) < (l0.length : Int) then (if (rd l0 x7_1) = (rd l0 (wrap64 (x7_1 - 1))) then (some (([] : List Int), x7_1, 17)) else (magnetoref05_Take.l0 k1 l0 x6_1 (wrap64 (x7_1 + 1)))) else (none)) else (none)) = some (r1, r2, r3) := by rw [if_pos rfl] at H; exact H
        clear H
        have H := H1
        clear H1
        obtain ⟨ji11, hji11⟩ : ∃ j_ : Int, (wrap64 (x7_1 - 1)) = j_ := ⟨_, rfl⟩
        replace H : (if 0 ≤ (ji11) then (if (ji11) < (l0.length : Int) then (if (rd l0 x7_1) = (rd l0 (ji11)) then (some (([] : List Int), x7_1, 17)) else (magnetoref05_Take.l0 k1 l0 x6_1 (wrap64 (x7_1 + 1)))) else (none)) else (none)) = some (r1, r2, r3) := by first | (rw [hji11] at H; exact H) | (simp only [hji11] at H ⊢; exact H)
        (try rw [hji11] at A9)
        have hji11w : (IntKind.i64.wrap (x7_1 - 1)) = ji11 := (i64_w _).trans hji11
        by_cases c12 : 0 ≤ (ji11)
        ·
         rw [if_pos c12] at H
         have c12b0 : decide (0 ≤ (ji11)) = true := decide_eq_true c12
         clear c12
         by_cases c13 : (ji11) < (l0.length : Int)
         ·
          rw [if_pos c13] at H
          have c13b0 : decide ((ji11) < (l0.length : Int)) = true := decide_eq_true c13
          clear c13
          by_cases c14 : (rd l0 x7_1) = (rd l0 (ji11))
          ·
           rw [if_pos c14] at H
           have c14b0 : ((rd l0 x7_1) == (rd l0 (ji11))) = true := beq_iff_eq.mpr c14
           have c14b1 : ((rd l0 x7_1) != (rd l0 (ji11))) = false := bne_eq_false_iff_eq.mpr c14
           clear c14
           simp only [Option.some.injEq, Prod.mk.injEq] at H
           obtain ⟨rfl, rfl, rfl⟩ := H
           obtain ⟨i015, hi015, _, hsz15, _⟩ := info_parts info3
           obtain ⟨hcut15, hA15, hC15⟩ := print_take_of (P := Try.prog) (Value.int .i64) 0 22 3 .i64 Try.underlying22 hi015 hsz15 A0 c0 l0 x7_1 (of_decide_eq_true (by first | (with_reducible assumption) | assumption)) (of_decide_eq_true (by first | (with_reducible assumption) | assumption)) HC0.out
           have HR808 := Aside0.mk (Kd.C_of_reads (h1 := fun _ => rfl) (hA15 _ (Kd.reads_of_C HR0.out)))
           have HC808 := Aside0.mk hC15
           clear hA15 hC15 hi015 hsz15
           go_wp2_with (first | (go_at_call 54; (try (with_reducible refine callsLen (n := (l0.take (x7_1 : Int).toNat).length) (by first | (simp only [List.length_take, List.length_drop]; done) | (simp only [List.length_take, List.length_drop]; omega) | (have h_ : (x7_1 : Int) ≤ (l0.length : Int) := of_decide_eq_true (by assumption); simp only [List.length_take, List.length_drop]; omega)) ?_)); (with_reducible refine (magnetoref05_Five.calls k1 _ _ (l0.take (x7_1 : Int).toNat) true _ ?side1 ?side2 A9.out).mono ?_); (case side1 => repeat (first | exact (Kd.C_below HR808.out HB.out) | (with_reducible refine Kd.C_alloc ?_ _) | (with_reducible refine Kd.C_drewN ?_ _) | (with_reducible refine Kd.C_drew ?_))); (case side2 => exact HC808.out); rintro e w' ⟨rfl, ⟨nd, rfl⟩⟩; (try first | exact ⟨rfl, _, World.drewN_drewN _ _ _⟩ | exact ⟨rfl, _, Eq.trans (World.drewN_drewN _ _ _) (congrArg (World.drewN _) (Nat.add_assoc _ _ _))⟩); have p810 : 0 ≤ (x7_1 : Int) := of_decide_eq_true (by first | (with_reducible assumption) | assumption); have q810 : x7_1 < (l0.length : Int) := of_decide_eq_true (by first | (with_reducible assumption) | assumption); obtain ⟨ad810, e810, hx810_0⟩ := Kd.at_int HR0.out x7_1 p810 q810; cases e810; replace hx810_0 := (HB.out.cell (World.block_lt_of_cell? w _ hx810_0)).trans hx810_0; replace p810 := eq_true p810; replace q810 := eq_true q810; have p811 : 0 ≤ ((ji11) : Int) := of_decide_eq_true (by first | (with_reducible assumption) | assumption); have q811 : (ji11) < (l0.length : Int) := of_decide_eq_true (by first | (with_reducible assumption) | assumption); obtain ⟨ad811, e811, hx811_0⟩ := Kd.at_int HR0.out (ji11) p811 q811; obtain rfl : ad810 = ad811 := (by injection e811); replace hx811_0 := (HB.out.cell (World.block_lt_of_cell? w _ hx811_0)).trans hx811_0; replace p811 := eq_true p811; replace q811 := eq_true q811))
           repeat (go_quiet (first | (go_at_call 54; (try (with_reducible refine callsLen (n := (l0.take (x7_1 : Int).toNat).length) (by first | (simp only [List.length_take, List.length_drop]; done) | (simp only [List.length_take, List.length_drop]; omega) | (have h_ : (x7_1 : Int) ≤ (l0.length : Int) := of_decide_eq_true (by assumption); simp only [List.length_take, List.length_drop]; omega)) ?_)); (with_reducible refine (magnetoref05_Five.calls k1 _ _ (l0.take (x7_1 : Int).toNat) true _ ?side1 ?side2 A9.out).mono ?_); (case side1 => repeat (first | exact (Kd.C_below HR808.out HB.out) | (with_reducible refine Kd.C_alloc ?_ _) | (with_reducible refine Kd.C_drewN ?_ _) | (with_reducible refine Kd.C_drew ?_))); (case side2 => exact HC808.out); rintro e w' ⟨rfl, ⟨nd, rfl⟩⟩; (try first | exact ⟨rfl, _, World.drewN_drewN _ _ _⟩ | exact ⟨rfl, _, Eq.trans (World.drewN_drewN _ _ _) (congrArg (World.drewN _) (Nat.add_assoc _ _ _))⟩); have p810 : 0 ≤ (x7_1 : Int) := of_decide_eq_true (by first | (with_reducible assumption) | assumption); have q810 : x7_1 < (l0.length : Int) := of_decide_eq_true (by first | (with_reducible assumption) | assumption); obtain ⟨ad810, e810, hx810_0⟩ := Kd.at_int HR0.out x7_1 p810 q810; cases e810; replace hx810_0 := (HB.out.cell (World.block_lt_of_cell? w _ hx810_0)).trans hx810_0; replace p810 := eq_true p810; replace q810 := eq_true q810; have p811 : 0 ≤ ((ji11) : Int) := of_decide_eq_true (by first | (with_reducible assumption) | assumption); have q811 : (ji11) < (l0.length : Int) := of_decide_eq_true (by first | (with_reducible assumption) | assumption); obtain ⟨ad811, e811, hx811_0⟩ := Kd.at_int HR0.out (ji11) p811 q811; obtain rfl : ad810 = ad811 := (by injection e811); replace hx811_0 := (HB.out.cell (World.block_lt_of_cell? w _ hx811_0)).trans hx811_0; replace p811 := eq_true p811; replace q811 := eq_true q811)); try go_wp2_with (first | (go_at_call 54; (try (with_reducible refine callsLen (n := (l0.take (x7_1 : Int).toNat).length) (by first | (simp only [List.length_take, List.length_drop]; done) | (simp only [List.length_take, List.length_drop]; omega) | (have h_ : (x7_1 : Int) ≤ (l0.length : Int) := of_decide_eq_true (by assumption); simp only [List.length_take, List.length_drop]; omega)) ?_)); (with_reducible refine (magnetoref05_Five.calls k1 _ _ (l0.take (x7_1 : Int).toNat) true _ ?side1 ?side2 A9.out).mono ?_); (case side1 => repeat (first | exact (Kd.C_below HR808.out HB.out) | (with_reducible refine Kd.C_alloc ?_ _) | (with_reducible refine Kd.C_drewN ?_ _) | (with_reducible refine Kd.C_drew ?_))); (case side2 => exact HC808.out); rintro e w' ⟨rfl, ⟨nd, rfl⟩⟩; (try first | exact ⟨rfl, _, World.drewN_drewN _ _ _⟩ | exact ⟨rfl, _, Eq.trans (World.drewN_drewN _ _ _) (congrArg (World.drewN _) (Nat.add_assoc _ _ _))⟩); have p810 : 0 ≤ (x7_1 : Int) := of_decide_eq_true (by first | (with_reducible assumption) | assumption); have q810 : x7_1 < (l0.length : Int) := of_decide_eq_true (by first | (with_reducible assumption) | assumption); obtain ⟨ad810, e810, hx810_0⟩ := Kd.at_int HR0.out x7_1 p810 q810; cases e810; replace hx810_0 := (HB.out.cell (World.block_lt_of_cell? w _ hx810_0)).trans hx810_0; replace p810 := eq_true p810; replace q810 := eq_true q810; have p811 : 0 ≤ ((ji11) : Int) := of_decide_eq_true (by first | (with_reducible assumption) | assumption); have q811 : (ji11) < (l0.length : Int) := of_decide_eq_true (by first | (with_reducible assumption) | assumption); obtain ⟨ad811, e811, hx811_0⟩ := Kd.at_int HR0.out (ji11) p811 q811; obtain rfl : ad810 = ad811 := (by injection e811); replace hx811_0 := (HB.out.cell (World.block_lt_of_cell? w _ hx811_0)).trans hx811_0; replace p811 := eq_true p811; replace q811 := eq_true q811)))
           go_ret3
           exact ⟨_, by first | rfl | (simp [errW_none, errW_some] <;> rfl) | (simp only [← hji11]; first | rfl | (simp [errW_none, errW_some] <;> rfl)) | (simp [*, errW_none, errW_some] <;> rfl), by first | exact Kd.R_nil _ _ _ _ _ | exact Kd.N_nil _ _ _ _ _ | exact Kd.V_nil _ _ _ _ _ | exact Kd.Q_nil _ _ _ _ _ | exact Kd.S_nil _ _ _ _ _, by repeat (first | (with_reducible first | exact HB.out | apply below_alloc | apply pw_below_drewN | apply below_drew1) | exact HB.out)⟩
          ·
           rw [if_neg c14] at H
           have c14b0 : ((rd l0 x7_1) == (rd l0 (ji11))) = false := beq_eq_false_iff_ne.mpr c14
           have c14b1 : ((rd l0 x7_1) != (rd l0 (ji11))) = true := bne_iff_ne.mpr c14
           have H' := Aside0.mk H
           clear H
           obtain ⟨i016, hi016, _, hsz16, _⟩ := info_parts info3
           obtain ⟨hcut16, hA16, hC16⟩ := print_take_of (P := Try.prog) (Value.int .i64) 0 22 3 .i64 Try.underlying22 hi016 hsz16 A0 c0 l0 x7_1 (of_decide_eq_true (by first | (with_reducible assumption) | assumption)) (of_decide_eq_true (by first | (with_reducible assumption) | assumption)) HC0.out
           have HR808 := Aside0.mk (Kd.C_of_reads (h1 := fun _ => rfl) (hA16 _ (Kd.reads_of_C HR0.out)))
           have HC808 := Aside0.mk hC16
           clear hA16 hC16 hi016 hsz16
           go_wp2_with (first | (go_at_call 54; (try (with_reducible refine callsLen (n := (l0.take (x7_1 : Int).toNat).length) (by first | (simp only [List.length_take, List.length_drop]; done) | (simp only [List.length_take, List.length_drop]; omega) | (have h_ : (x7_1 : Int) ≤ (l0.length : Int) := of_decide_eq_true (by assumption); simp only [List.length_take, List.length_drop]; omega)) ?_)); (with_reducible refine (magnetoref05_Five.calls k1 _ _ (l0.take (x7_1 : Int).toNat) true _ ?side1 ?side2 A9.out).mono ?_); (case side1 => repeat (first | exact (Kd.C_below HR808.out HB.out) | (with_reducible refine Kd.C_alloc ?_ _) | (with_reducible refine Kd.C_drewN ?_ _) | (with_reducible refine Kd.C_drew ?_))); (case side2 => exact HC808.out); rintro e w' ⟨rfl, ⟨nd, rfl⟩⟩; (try first | exact ⟨rfl, _, World.drewN_drewN _ _ _⟩ | exact ⟨rfl, _, Eq.trans (World.drewN_drewN _ _ _) (congrArg (World.drewN _) (Nat.add_assoc _ _ _))⟩); have p810 : 0 ≤ (x7_1 : Int) := of_decide_eq_true (by first | (with_reducible assumption) | assumption); have q810 : x7_1 < (l0.length : Int) := of_decide_eq_true (by first | (with_reducible assumption) | assumption); obtain ⟨ad810, e810, hx810_0⟩ := Kd.at_int HR0.out x7_1 p810 q810; cases e810; replace hx810_0 := (HB.out.cell (World.block_lt_of_cell? w _ hx810_0)).trans hx810_0; replace p810 := eq_true p810; replace q810 := eq_true q810; have p811 : 0 ≤ ((ji11) : Int) := of_decide_eq_true (by first | (with_reducible assumption) | assumption); have q811 : (ji11) < (l0.length : Int) := of_decide_eq_true (by first | (with_reducible assumption) | assumption); obtain ⟨ad811, e811, hx811_0⟩ := Kd.at_int HR0.out (ji11) p811 q811; obtain rfl : ad810 = ad811 := (by injection e811); replace hx811_0 := (HB.out.cell (World.block_lt_of_cell? w _ hx811_0)).trans hx811_0; replace p811 := eq_true p811; replace q811 := eq_true q811))
           repeat (go_quiet (first | (go_at_call 54; (try (with_reducible refine callsLen (n := (l0.take (x7_1 : Int).toNat).length) (by first | (simp only [List.length_take, List.length_drop]; done) | (simp only [List.length_take, List.length_drop]; omega) | (have h_ : (x7_1 : Int) ≤ (l0.length : Int) := of_decide_eq_true (by assumption); simp only [List.length_take, List.length_drop]; omega)) ?_)); (with_reducible refine (magnetoref05_Five.calls k1 _ _ (l0.take (x7_1 : Int).toNat) true _ ?side1 ?side2 A9.out).mono ?_); (case side1 => repeat (first | exact (Kd.C_below HR808.out HB.out) | (with_reducible refine Kd.C_alloc ?_ _) | (with_reducible refine Kd.C_drewN ?_ _) | (with_reducible refine Kd.C_drew ?_))); (case side2 => exact HC808.out); rintro e w' ⟨rfl, ⟨nd, rfl⟩⟩; (try first | exact ⟨rfl, _, World.drewN_drewN _ _ _⟩ | exact ⟨rfl, _, Eq.trans (World.drewN_drewN _ _ _) (congrArg (World.drewN _) (Nat.add_assoc _ _ _))⟩); have p810 : 0 ≤ (x7_1 : Int) := of_decide_eq_true (by first | (with_reducible assumption) | assumption); have q810 : x7_1 < (l0.length : Int) := of_decide_eq_true (by first | (with_reducible assumption) | assumption); obtain ⟨ad810, e810, hx810_0⟩ := Kd.at_int HR0.out x7_1 p810 q810; cases e810; replace hx810_0 := (HB.out.cell (World.block_lt_of_cell? w _ hx810_0)).trans hx810_0; replace p810 := eq_true p810; replace q810 := eq_true q810; have p811 : 0 ≤ ((ji11) : Int) := of_decide_eq_true (by first | (with_reducible assumption) | assumption); have q811 : (ji11) < (l0.length : Int) := of_decide_eq_true (by first | (with_reducible assumption) | assumption); obtain ⟨ad811, e811, hx811_0⟩ := Kd.at_int HR0.out (ji11) p811 q811; obtain rfl : ad810 = ad811 := (by injection e811); replace hx811_0 := (HB.out.cell (World.block_lt_of_cell? w _ hx811_0)).trans hx811_0; replace p811 := eq_true p811; replace q811 := eq_true q811)); try go_wp2_with (first | (go_at_call 54; (try (with_reducible refine callsLen (n := (l0.take (x7_1 : Int).toNat).length) (by first | (simp only [List.length_take, List.length_drop]; done) | (simp only [List.length_take, List.length_drop]; omega) | (have h_ : (x7_1 : Int) ≤ (l0.length : Int) := of_decide_eq_true (by assumption); simp only [List.length_take, List.length_drop]; omega)) ?_)); (with_reducible refine (magnetoref05_Five.calls k1 _ _ (l0.take (x7_1 : Int).toNat) true _ ?side1 ?side2 A9.out).mono ?_); (case side1 => repeat (first | exact (Kd.C_below HR808.out HB.out) | (with_reducible refine Kd.C_alloc ?_ _) | (with_reducible refine Kd.C_drewN ?_ _) | (with_reducible refine Kd.C_drew ?_))); (case side2 => exact HC808.out); rintro e w' ⟨rfl, ⟨nd, rfl⟩⟩; (try first | exact ⟨rfl, _, World.drewN_drewN _ _ _⟩ | exact ⟨rfl, _, Eq.trans (World.drewN_drewN _ _ _) (congrArg (World.drewN _) (Nat.add_assoc _ _ _))⟩); have p810 : 0 ≤ (x7_1 : Int) := of_decide_eq_true (by first | (with_reducible assumption) | assumption); have q810 : x7_1 < (l0.length : Int) := of_decide_eq_true (by first | (with_reducible assumption) | assumption); obtain ⟨ad810, e810, hx810_0⟩ := Kd.at_int HR0.out x7_1 p810 q810; cases e810; replace hx810_0 := (HB.out.cell (World.block_lt_of_cell? w _ hx810_0)).trans hx810_0; replace p810 := eq_true p810; replace q810 := eq_true q810; have p811 : 0 ≤ ((ji11) : Int) := of_decide_eq_true (by first | (with_reducible assumption) | assumption); have q811 : (ji11) < (l0.length : Int) := of_decide_eq_true (by first | (with_reducible assumption) | assumption); obtain ⟨ad811, e811, hx811_0⟩ := Kd.at_int HR0.out (ji11) p811 q811; obtain rfl : ad810 = ad811 := (by injection e811); replace hx811_0 := (HB.out.cell (World.block_lt_of_cell? w _ hx811_0)).trans hx811_0; replace p811 := eq_true p811; replace q811 := eq_true q811)))
           go_roundg k1
           case measure => have := HK1.out; omega
           case rel => exact ⟨(x6_1), (wrap64 (x7_1 + 1)), (by first | rfl | (simp; done) | (simp [*]; done)), H', ⟨by have := HK1.out; omega⟩, ⟨by (with_reducible repeat (first | apply Kd.R_alloc | apply Kd.R_drewN | apply Kd.R_drew)); exact HO_6.out⟩, ⟨by repeat (first | (with_reducible first | exact HB.out | apply below_alloc | apply pw_below_drewN | apply below_drew1) | exact HB.out)⟩⟩
         ·
          rw [if_neg c13] at H
          exact absurd H (by simp)
        ·
         rw [if_neg c12] at H
         exact absurd H (by simp)
       ·
        replace c10 := Bool.eq_false_iff.mpr c10
        subst c10
        have H1 : (if x6_1.length < 17592186044416 then (magnetoref05_Take.l0 k1 l0 (x6_1 ++ [rd l0 x7_1]) (wrap64 (x7_1 + 1))) else (none)) = some (r1, r2, r3) := by rw [if_neg (show ¬ (false = true) by decide)] at H; exact H
        clear H
        have H := H1
        clear H1
        by_cases c17 : x6_1.length < 17592186044416
        ·
         rw [if_pos c17] at H
         have LMc17 := Aside0.mk c17
         clear c17
         obtain ⟨y813, hy813⟩ : ∃ y_ : List Int, y_ = (x6_1 ++ [rd l0 x7_1]) := ⟨_, rfl⟩
         replace H : (magnetoref05_Take.l0 k1 l0 y813 (wrap64 (x7_1 + 1))) = some (r1, r2, r3) := by first | (rw [hy813]; with_reducible exact H) | (have H2_ := (Option.bind_some _ _).symm.trans H; rw [hy813]; with_reducible exact H2_) | (have H2_ := (Option.bind_some _ _).symm.trans H; with_reducible exact H2_) | with_reducible exact H | (rw [hy813]; exact H) | exact H
         have Ny813 := Aside0.mk hy813
         clear hy813
         have H' := Aside0.mk H
         clear H
         obtain ⟨i018, hi018, _, hsz18, _⟩ := info_parts info3
         obtain ⟨hcut18, hA18, hC18⟩ := print_take_of (P := Try.prog) (Value.int .i64) 0 22 3 .i64 Try.underlying22 hi018 hsz18 A0 c0 l0 x7_1 (of_decide_eq_true (by first | (with_reducible assumption) | assumption)) (of_decide_eq_true (by first | (with_reducible assumption) | assumption)) HC0.out
         have HR808 := Aside0.mk (Kd.C_of_reads (h1 := fun _ => rfl) (hA18 _ (Kd.reads_of_C HR0.out)))
         have HC808 := Aside0.mk hC18
         clear hA18 hC18 hi018 hsz18
         go_wp2_with (first | (go_at_call 54; (try (with_reducible refine callsLen (n := (l0.take (x7_1 : Int).toNat).length) (by first | (simp only [List.length_take, List.length_drop]; done) | (simp only [List.length_take, List.length_drop]; omega) | (have h_ : (x7_1 : Int) ≤ (l0.length : Int) := of_decide_eq_true (by assumption); simp only [List.length_take, List.length_drop]; omega)) ?_)); (with_reducible refine (magnetoref05_Five.calls k1 _ _ (l0.take (x7_1 : Int).toNat) false _ ?side1 ?side2 A9.out).mono ?_); (case side1 => repeat (first | exact (Kd.C_below HR808.out HB.out) | (with_reducible refine Kd.C_alloc ?_ _) | (with_reducible refine Kd.C_drewN ?_ _) | (with_reducible refine Kd.C_drew ?_))); (case side2 => exact HC808.out); rintro e w' ⟨rfl, ⟨nd, rfl⟩⟩; (try first | exact ⟨rfl, _, World.drewN_drewN _ _ _⟩ | exact ⟨rfl, _, Eq.trans (World.drewN_drewN _ _ _) (congrArg (World.drewN _) (Nat.add_assoc _ _ _))⟩); have p812 : 0 ≤ (x7_1 : Int) := of_decide_eq_true (by first | (with_reducible assumption) | assumption); have q812 : x7_1 < (l0.length : Int) := of_decide_eq_true (by first | (with_reducible assumption) | assumption); obtain ⟨ad812, e812, hx812_0⟩ := Kd.at_int HR0.out x7_1 p812 q812; cases e812; replace hx812_0 := (HB.out.cell (World.block_lt_of_cell? w _ hx812_0)).trans hx812_0; replace p812 := eq_true p812; replace q812 := eq_true q812) | ((with_reducible refine gate_builtin (b := .append) (xs := #[.tmp 35, .tmp 40]) rfl ?_); at_builtin; refine Kd.R_append (Kd.int .i64) (w0 := w) w.heap.size rfl (.tmp 35) (.tmp 40) 22 3 (.int .i64 0) 8 rfl Try.underlying22 info3 rfl (by decide) (by omega) u6 x6_1 (rd l0 x7_1) [.int .i64 (rd l0 x7_1)] (fun _ => True) (fun _ => False) rfl rfl ?aP (fun _ hk => hk.elim) ?aF ?aO ?aB ?aS ?aL ?_; (case aP => exact rfl); (case aB => exact (by repeat (first | (with_reducible first | exact HB.out | apply below_alloc | apply pw_below_drewN | apply below_drew1) | exact HB.out))); (case aF => exact (fun _ _ => trivial)); (case aO => exact (by (with_reducible repeat (first | apply Kd.R_alloc | apply Kd.R_drewN | apply Kd.R_drew)); exact HO_6.out)); (case aS => exact (below_size (by repeat (first | (with_reducible first | exact HB.out | apply below_alloc | apply pw_below_drewN | apply below_drew1) | exact HB.out)))); (case aL => have := LMc17.out; omega); intro v814 w19 ho hb hg hat; rw [← Ny813.out] at ho; have n0_ := Aside0.mk (hb); have n1_ := Aside0.mk (ho); clear HB; clear HO_6; have HB := n0_; have HO815 := n1_; clear n0_ n1_; clear ho hb hg hat))
         repeat (go_quiet (first | (go_at_call 54; (try (with_reducible refine callsLen (n := (l0.take (x7_1 : Int).toNat).length) (by first | (simp only [List.length_take, List.length_drop]; done) | (simp only [List.length_take, List.length_drop]; omega) | (have h_ : (x7_1 : Int) ≤ (l0.length : Int) := of_decide_eq_true (by assumption); simp only [List.length_take, List.length_drop]; omega)) ?_)); (with_reducible refine (magnetoref05_Five.calls k1 _ _ (l0.take (x7_1 : Int).toNat) false _ ?side1 ?side2 A9.out).mono ?_); (case side1 => repeat (first | exact (Kd.C_below HR808.out HB.out) | (with_reducible refine Kd.C_alloc ?_ _) | (with_reducible refine Kd.C_drewN ?_ _) | (with_reducible refine Kd.C_drew ?_))); (case side2 => exact HC808.out); rintro e w' ⟨rfl, ⟨nd, rfl⟩⟩; (try first | exact ⟨rfl, _, World.drewN_drewN _ _ _⟩ | exact ⟨rfl, _, Eq.trans (World.drewN_drewN _ _ _) (congrArg (World.drewN _) (Nat.add_assoc _ _ _))⟩); have p812 : 0 ≤ (x7_1 : Int) := of_decide_eq_true (by first | (with_reducible assumption) | assumption); have q812 : x7_1 < (l0.length : Int) := of_decide_eq_true (by first | (with_reducible assumption) | assumption); obtain ⟨ad812, e812, hx812_0⟩ := Kd.at_int HR0.out x7_1 p812 q812; cases e812; replace hx812_0 := (HB.out.cell (World.block_lt_of_cell? w _ hx812_0)).trans hx812_0; replace p812 := eq_true p812; replace q812 := eq_true q812) | ((with_reducible refine gate_builtin (b := .append) (xs := #[.tmp 35, .tmp 40]) rfl ?_); at_builtin; refine Kd.R_append (Kd.int .i64) (w0 := w) w.heap.size rfl (.tmp 35) (.tmp 40) 22 3 (.int .i64 0) 8 rfl Try.underlying22 info3 rfl (by decide) (by omega) u6 x6_1 (rd l0 x7_1) [.int .i64 (rd l0 x7_1)] (fun _ => True) (fun _ => False) rfl rfl ?aP (fun _ hk => hk.elim) ?aF ?aO ?aB ?aS ?aL ?_; (case aP => exact rfl); (case aB => exact (by repeat (first | (with_reducible first | exact HB.out | apply below_alloc | apply pw_below_drewN | apply below_drew1) | exact HB.out))); (case aF => exact (fun _ _ => trivial)); (case aO => exact (by (with_reducible repeat (first | apply Kd.R_alloc | apply Kd.R_drewN | apply Kd.R_drew)); exact HO_6.out)); (case aS => exact (below_size (by repeat (first | (with_reducible first | exact HB.out | apply below_alloc | apply pw_below_drewN | apply below_drew1) | exact HB.out)))); (case aL => have := LMc17.out; omega); intro v814 w19 ho hb hg hat; rw [← Ny813.out] at ho; have n0_ := Aside0.mk (hb); have n1_ := Aside0.mk (ho); clear HB; clear HO_6; have HB := n0_; have HO815 := n1_; clear n0_ n1_; clear ho hb hg hat)); try go_wp2_with (first | (go_at_call 54; (try (with_reducible refine callsLen (n := (l0.take (x7_1 : Int).toNat).length) (by first | (simp only [List.length_take, List.length_drop]; done) | (simp only [List.length_take, List.length_drop]; omega) | (have h_ : (x7_1 : Int) ≤ (l0.length : Int) := of_decide_eq_true (by assumption); simp only [List.length_take, List.length_drop]; omega)) ?_)); (with_reducible refine (magnetoref05_Five.calls k1 _ _ (l0.take (x7_1 : Int).toNat) false _ ?side1 ?side2 A9.out).mono ?_); (case side1 => repeat (first | exact (Kd.C_below HR808.out HB.out) | (with_reducible refine Kd.C_alloc ?_ _) | (with_reducible refine Kd.C_drewN ?_ _) | (with_reducible refine Kd.C_drew ?_))); (case side2 => exact HC808.out); rintro e w' ⟨rfl, ⟨nd, rfl⟩⟩; (try first | exact ⟨rfl, _, World.drewN_drewN _ _ _⟩ | exact ⟨rfl, _, Eq.trans (World.drewN_drewN _ _ _) (congrArg (World.drewN _) (Nat.add_assoc _ _ _))⟩); have p812 : 0 ≤ (x7_1 : Int) := of_decide_eq_true (by first | (with_reducible assumption) | assumption); have q812 : x7_1 < (l0.length : Int) := of_decide_eq_true (by first | (with_reducible assumption) | assumption); obtain ⟨ad812, e812, hx812_0⟩ := Kd.at_int HR0.out x7_1 p812 q812; cases e812; replace hx812_0 := (HB.out.cell (World.block_lt_of_cell? w _ hx812_0)).trans hx812_0; replace p812 := eq_true p812; replace q812 := eq_true q812) | ((with_reducible refine gate_builtin (b := .append) (xs := #[.tmp 35, .tmp 40]) rfl ?_); at_builtin; refine Kd.R_append (Kd.int .i64) (w0 := w) w.heap.size rfl (.tmp 35) (.tmp 40) 22 3 (.int .i64 0) 8 rfl Try.underlying22 info3 rfl (by decide) (by omega) u6 x6_1 (rd l0 x7_1) [.int .i64 (rd l0 x7_1)] (fun _ => True) (fun _ => False) rfl rfl ?aP (fun _ hk => hk.elim) ?aF ?aO ?aB ?aS ?aL ?_; (case aP => exact rfl); (case aB => exact (by repeat (first | (with_reducible first | exact HB.out | apply below_alloc | apply pw_below_drewN | apply below_drew1) | exact HB.out))); (case aF => exact (fun _ _ => trivial)); (case aO => exact (by (with_reducible repeat (first | apply Kd.R_alloc | apply Kd.R_drewN | apply Kd.R_drew)); exact HO_6.out)); (case aS => exact (below_size (by repeat (first | (with_reducible first | exact HB.out | apply below_alloc | apply pw_below_drewN | apply below_drew1) | exact HB.out)))); (case aL => have := LMc17.out; omega); intro v814 w19 ho hb hg hat; rw [← Ny813.out] at ho; have n0_ := Aside0.mk (hb); have n1_ := Aside0.mk (ho); clear HB; clear HO_6; have HB := n0_; have HO815 := n1_; clear n0_ n1_; clear ho hb hg hat)))
         go_roundg k1
         case measure => have := HK1.out; omega
         case rel => exact ⟨(y813), (wrap64 (x7_1 + 1)), (by first | rfl | (simp; done) | (simp [*]; done)), H', ⟨by have := HK1.out; omega⟩, ⟨by (with_reducible repeat (first | apply Kd.R_alloc | apply Kd.R_drewN | apply Kd.R_drew)); exact HO815.out⟩, ⟨by repeat (first | (with_reducible first | exact HB.out | apply below_alloc | apply pw_below_drewN | apply below_drew1) | exact HB.out)⟩⟩
        ·
         rw [if_neg c17] at H
         exact absurd H (by simp)
      ·
       rw [if_neg c8] at H
       exact absurd H (by simp)
     ·
      rw [if_neg c7] at H
      exact absurd H (by simp)
    ·
     rw [if_neg c6] at H
     have c6b0 : decide (x7_1 < (l0.length : Int)) = false := decide_eq_false c6
     clear c6
     replace H := Option.bind_eq_some_iff.mp H
     obtain ⟨t807, A200, H⟩ := H
     replace H : (if t807 = true then (some (([] : List Int), (l0.length : Int), 13)) else (some (x6_1, 0, 0))) = some (r1, r2, r3) := H
     have A20 := Aside0.mk A200
     clear A200
     by_cases c21 : t807 = true
     ·
      subst c21
      have H1 : (some (([] : List Int), (l0.length : Int), 13)) = some (r1, r2, r3) := by rw [if_pos rfl] at H; exact H
      clear H
      have H := H1
      clear H1
      simp only [Option.some.injEq, Prod.mk.injEq] at H
      obtain ⟨rfl, rfl, rfl⟩ := H
      go_wp2_with (first | (go_at_call 54; (with_reducible refine (magnetoref05_Five.calls k1 _ _ l0 true _ ?side1 ?side2 A20.out).mono ?_); (case side1 => repeat (first | exact (Kd.C_below HR0.out HB.out) | (with_reducible refine Kd.C_alloc ?_ _) | (with_reducible refine Kd.C_drewN ?_ _) | (with_reducible refine Kd.C_drew ?_))); (case side2 => exact HC0.out); rintro e w' ⟨rfl, ⟨nd, rfl⟩⟩; (try first | exact ⟨rfl, _, World.drewN_drewN _ _ _⟩ | exact ⟨rfl, _, Eq.trans (World.drewN_drewN _ _ _) (congrArg (World.drewN _) (Nat.add_assoc _ _ _))⟩)))
      repeat (go_quiet (first | (go_at_call 54; (with_reducible refine (magnetoref05_Five.calls k1 _ _ l0 true _ ?side1 ?side2 A20.out).mono ?_); (case side1 => repeat (first | exact (Kd.C_below HR0.out HB.out) | (with_reducible refine Kd.C_alloc ?_ _) | (with_reducible refine Kd.C_drewN ?_ _) | (with_reducible refine Kd.C_drew ?_))); (case side2 => exact HC0.out); rintro e w' ⟨rfl, ⟨nd, rfl⟩⟩; (try first | exact ⟨rfl, _, World.drewN_drewN _ _ _⟩ | exact ⟨rfl, _, Eq.trans (World.drewN_drewN _ _ _) (congrArg (World.drewN _) (Nat.add_assoc _ _ _))⟩))); try go_wp2_with (first | (go_at_call 54; (with_reducible refine (magnetoref05_Five.calls k1 _ _ l0 true _ ?side1 ?side2 A20.out).mono ?_); (case side1 => repeat (first | exact (Kd.C_below HR0.out HB.out) | (with_reducible refine Kd.C_alloc ?_ _) | (with_reducible refine Kd.C_drewN ?_ _) | (with_reducible refine Kd.C_drew ?_))); (case side2 => exact HC0.out); rintro e w' ⟨rfl, ⟨nd, rfl⟩⟩; (try first | exact ⟨rfl, _, World.drewN_drewN _ _ _⟩ | exact ⟨rfl, _, Eq.trans (World.drewN_drewN _ _ _) (congrArg (World.drewN _) (Nat.add_assoc _ _ _))⟩))))
      go_ret3
      exact ⟨_, by first | rfl | (simp [errW_none, errW_some] <;> rfl) | (simp [*, errW_none, errW_some] <;> rfl), by first | exact Kd.R_nil _ _ _ _ _ | exact Kd.N_nil _ _ _ _ _ | exact Kd.V_nil _ _ _ _ _ | exact Kd.Q_nil _ _ _ _ _ | exact Kd.S_nil _ _ _ _ _, by repeat (first | (with_reducible first | exact HB.out | apply below_alloc | apply pw_below_drewN | apply below_drew1) | exact HB.out)⟩
     ·
      replace c21 := Bool.eq_false_iff.mpr c21
      subst c21
      have H1 : (some (x6_1, 0, 0)) = some (r1, r2, r3) := by rw [if_neg (show ¬ (false = true) by decide)] at H; exact H
      clear H
      have H := H1
      clear H1
      simp only [Option.some.injEq, Prod.mk.injEq] at H
      obtain ⟨rfl, rfl, rfl⟩ := H
      go_wp2_with (first | (go_at_call 54; (with_reducible refine (magnetoref05_Five.calls k1 _ _ l0 false _ ?side1 ?side2 A20.out).mono ?_); (case side1 => repeat (first | exact (Kd.C_below HR0.out HB.out) | (with_reducible refine Kd.C_alloc ?_ _) | (with_reducible refine Kd.C_drewN ?_ _) | (with_reducible refine Kd.C_drew ?_))); (case side2 => exact HC0.out); rintro e w' ⟨rfl, ⟨nd, rfl⟩⟩; (try first | exact ⟨rfl, _, World.drewN_drewN _ _ _⟩ | exact ⟨rfl, _, Eq.trans (World.drewN_drewN _ _ _) (congrArg (World.drewN _) (Nat.add_assoc _ _ _))⟩)))
      repeat (go_quiet (first | (go_at_call 54; (with_reducible refine (magnetoref05_Five.calls k1 _ _ l0 false _ ?side1 ?side2 A20.out).mono ?_); (case side1 => repeat (first | exact (Kd.C_below HR0.out HB.out) | (with_reducible refine Kd.C_alloc ?_ _) | (with_reducible refine Kd.C_drewN ?_ _) | (with_reducible refine Kd.C_drew ?_))); (case side2 => exact HC0.out); rintro e w' ⟨rfl, ⟨nd, rfl⟩⟩; (try first | exact ⟨rfl, _, World.drewN_drewN _ _ _⟩ | exact ⟨rfl, _, Eq.trans (World.drewN_drewN _ _ _) (congrArg (World.drewN _) (Nat.add_assoc _ _ _))⟩))); try go_wp2_with (first | (go_at_call 54; (with_reducible refine (magnetoref05_Five.calls k1 _ _ l0 false _ ?side1 ?side2 A20.out).mono ?_); (case side1 => repeat (first | exact (Kd.C_below HR0.out HB.out) | (with_reducible refine Kd.C_alloc ?_ _) | (with_reducible refine Kd.C_drewN ?_ _) | (with_reducible refine Kd.C_drew ?_))); (case side2 => exact HC0.out); rintro e w' ⟨rfl, ⟨nd, rfl⟩⟩; (try first | exact ⟨rfl, _, World.drewN_drewN _ _ _⟩ | exact ⟨rfl, _, Eq.trans (World.drewN_drewN _ _ _) (congrArg (World.drewN _) (Nat.add_assoc _ _ _))⟩))))
      go_ret3
      exact ⟨_, by first | rfl | (simp [errW_none, errW_some] <;> rfl) | (simp [*, errW_none, errW_some] <;> rfl), by (with_reducible repeat (first | apply Kd.R_alloc | apply Kd.R_drewN | apply Kd.R_drew)); exact HO_6.out, by repeat (first | (with_reducible first | exact HB.out | apply below_alloc | apply pw_below_drewN | apply below_drew1) | exact HB.out)⟩

/-! ### stuff_Next: function 53 -/
def stuff_Next.f (k : Nat) (l0 : List Int) : Option (Bool × Int) := if (wrap64 ((l0.length : Int) - 5)) < 0 then (some (false, 0)) else ((bits_Check.f l0).bind fun t816 => (if t816 ≥ 0 then (some (false, 0)) else (if 0 ≤ (wrap64 ((l0.length : Int) - 5)) then (if (wrap64 ((l0.length : Int) - 5)) ≤ (l0.length : Int) then ((bits_Longest.f k (l0.drop ((wrap64 ((l0.length : Int) - 5)) : Int).toNat)).bind fun t818 => (if t818 < 5 then (some (false, 0)) else (if (wrap64 ((l0.length : Int) - 5)) < (l0.length : Int) then ((stuff_other.f (rd l0 (wrap64 ((l0.length : Int) - 5)))).bind fun t820 => (some (true, t820))) else (none)))) else (none)) else (none))))
theorem stuff_Next.mono : ∀ a0 k, LeO (stuff_Next.f k a0) (stuff_Next.f (k + 1) a0) := by
 intro a0 k
 unfold stuff_Next.f
 repeat' first
   | (with_reducible exact bits_Longest.mono _ _)
   | (with_reducible exact LeO.refl _)
   | (with_reducible exact LeO.none _)
   | (with_reducible refine LeO.ite ?_ ?_)
   | (with_reducible refine LeO.bind ?_ (fun _ => ?_))
   | exact bits_Longest.mono _ _
   | exact LeO.none _
   | refine LeO.ite ?_ ?_
   | refine LeO.bind ?_ (fun _ => ?_)
set_option maxHeartbeats 8000000 in
set_option maxRecDepth 100000 in
theorem stuff_Next.calls (k : Nat) (A0 : Option Addr) (c0 : Nat) (l0 : List Int) (r1 : Bool) (r2 : Int) (w : World) (hr0 : Kd.C (Kd.int .i64) w A0 l0.length l0) (hc0 : l0.length ≤ c0) (h : stuff_Next.f k l0 = some (r1, r2)) :
  Calls Try.prog 53 #[.slice A0 l0.length c0] w fun e w' => e = .returned (.tuple #[.bool r1, .int .i64 r2]) ∧ Below w.heap.size w w' := by
 have HR0 := Aside0.mk hr0
 have HC0 := Aside0.mk hc0
 clear hr0 hc0
 have HB := Aside0.mk (Below.refl w.heap.size w)
 have H : (if (wrap64 ((l0.length : Int) - 5)) < 0 then (some (false, 0)) else ((bits_Check.f l0).bind fun t816 => (if t816 ≥ 0 then (some (false, 0)) else (if 0 ≤ (wrap64 ((l0.length : Int) - 5)) then (if (wrap64 ((l0.length : Int) - 5)) ≤ (l0.length : Int) then ((bits_Longest.f k (l0.drop ((wrap64 ((l0.length : Int) - 5)) : Int).toNat)).bind fun t818 => (if t818 < 5 then (some (false, 0)) else (if (wrap64 ((l0.length : Int) - 5)) < (l0.length : Int) then ((stuff_other.f (rd l0 (wrap64 ((l0.length : Int) - 5)))).bind fun t820 => (some (true, t820))) else (none)))) else (none)) else (none))))) = some (r1, r2) := h
 clear h
 by_cases c2 : (wrap64 ((l0.length : Int) - 5)) < 0
 ·
  rw [if_pos c2] at H
  have c2b0 : decide ((wrap64 ((l0.length : Int) - 5)) < 0) = true := decide_eq_true c2
  clear c2
  simp only [Option.some.injEq, Prod.mk.injEq] at H
  obtain ⟨rfl, rfl⟩ := H
  go_enter Try.func53, Try.ntmps53
  go_wp2
  go_ret2
  exact ⟨by first | rfl | (simp [errW_none, errW_some] <;> rfl) | (simp [*, errW_none, errW_some] <;> rfl), by repeat (first | (with_reducible first | exact HB.out | apply below_alloc | apply pw_below_drewN | apply below_drew1) | exact HB.out)⟩
 ·
  rw [if_neg c2] at H
  have c2b0 : decide ((wrap64 ((l0.length : Int) - 5)) < 0) = false := decide_eq_false c2
  clear c2
  replace H := Option.bind_eq_some_iff.mp H
  obtain ⟨t816, A30, H⟩ := H
  replace H : (if t816 ≥ 0 then (some (false, 0)) else (if 0 ≤ (wrap64 ((l0.length : Int) - 5)) then (if (wrap64 ((l0.length : Int) - 5)) ≤ (l0.length : Int) then ((bits_Longest.f k (l0.drop ((wrap64 ((l0.length : Int) - 5)) : Int).toNat)).bind fun t818 => (if t818 < 5 then (some (false, 0)) else (if (wrap64 ((l0.length : Int) - 5)) < (l0.length : Int) then ((stuff_other.f (rd l0 (wrap64 ((l0.length : Int) - 5)))).bind fun t820 => (some (true, t820))) else (none)))) else (none)) else (none))) = some (r1, r2) := H
  have A3 := Aside0.mk A30
  clear A30
  by_cases c4 : t816 ≥ 0
  ·
   rw [if_pos c4] at H
   have c4b0 : decide (0 ≤ t816) = true := decide_eq_true c4
   clear c4
   simp only [Option.some.injEq, Prod.mk.injEq] at H
   obtain ⟨rfl, rfl⟩ := H
   go_enter Try.func53, Try.ntmps53
   go_wp2_with (first | (go_at_call 32; (with_reducible refine (bits_Check.calls _ _ l0 t816 _ ?side1 ?side2 A3.out).mono ?_); (case side1 => repeat (first | exact HR0.out | (with_reducible refine Kd.C_alloc ?_ _) | (with_reducible refine Kd.C_drewN ?_ _) | (with_reducible refine Kd.C_drew ?_))); (case side2 => exact HC0.out); rintro e w' ⟨rfl, ⟨nd, rfl⟩⟩))
   go_ret2
   exact ⟨by first | rfl | (simp [errW_none, errW_some] <;> rfl) | (simp [*, errW_none, errW_some] <;> rfl), by repeat (first | (with_reducible first | exact HB.out | apply below_alloc | apply pw_below_drewN | apply below_drew1) | exact HB.out)⟩
  ·
   rw [if_neg c4] at H
   have c4b0 : decide (0 ≤ t816) = false := decide_eq_false c4
   clear c4
   obtain ⟨ji5, hji5⟩ : ∃ j_ : Int, (wrap64 ((l0.length : Int) - 5)) = j_ := ⟨_, rfl⟩
   replace H : (if 0 ≤ (ji5) then (if (ji5) ≤ (l0.length : Int) then ((bits_Longest.f k (l0.drop ((ji5) : Int).toNat)).bind fun t818 => (if t818 < 5 then (some (false, 0)) else (if (ji5) < (l0.length : Int) then ((stuff_other.f (rd l0 (ji5))).bind fun t820 => (some (true, t820))) else (none)))) else (none)) else (none)) = some (r1, r2) := by first | (rw [hji5] at H; exact H) | (simp only [hji5] at H ⊢; exact H)
   (try rw [hji5] at c2b0)
   (try rw [hji5] at A3)
   have hji5w : (IntKind.i64.wrap ((l0.length : Int) - 5)) = ji5 := (i64_w _).trans hji5
   by_cases c6 : 0 ≤ (ji5)
   ·
    rw [if_pos c6] at H
    have c6b0 := eq_true c6
    have c6b1 : decide (0 ≤ (ji5)) = true := decide_eq_true c6
    clear c6
    by_cases c7 : (ji5) ≤ (l0.length : Int)
    ·
     rw [if_pos c7] at H
     have c7b0 := eq_true c7
     have c7b1 : decide ((ji5) ≤ (l0.length : Int)) = true := decide_eq_true c7
     clear c7
     replace H := Option.bind_eq_some_iff.mp H
     obtain ⟨t818, A80, H⟩ := H
     replace H : (if t818 < 5 then (some (false, 0)) else (if (ji5) < (l0.length : Int) then ((stuff_other.f (rd l0 (ji5))).bind fun t820 => (some (true, t820))) else (none))) = some (r1, r2) := H
     have A8 := Aside0.mk A80
     clear A80
     by_cases c9 : t818 < 5
     ·
      rw [if_pos c9] at H
      have c9b0 : decide (t818 < 5) = true := decide_eq_true c9
      clear c9
      simp only [Option.some.injEq, Prod.mk.injEq] at H
      obtain ⟨rfl, rfl⟩ := H
      go_enter Try.func53, Try.ntmps53
      go_wp2_with (first | (go_at_call 32; (with_reducible refine (bits_Check.calls _ _ l0 t816 _ ?side1 ?side2 A3.out).mono ?_); (case side1 => repeat (first | exact HR0.out | (with_reducible refine Kd.C_alloc ?_ _) | (with_reducible refine Kd.C_drewN ?_ _) | (with_reducible refine Kd.C_drew ?_))); (case side2 => exact HC0.out); rintro e w' ⟨rfl, ⟨nd, rfl⟩⟩; obtain ⟨i010, hi010, _, hsz10, _⟩ := info_parts info3; obtain ⟨A10, hcut10, hA10, hC10⟩ := print_drop_of (P := Try.prog) (Value.int .i64) 0 22 3 .i64 Try.underlying22 hi010 hsz10 A0 c0 l0 (ji5) (of_decide_eq_true (by first | (with_reducible assumption) | assumption)) (of_decide_eq_true (by first | (with_reducible assumption) | assumption)) HC0.out; have HR817 := Aside0.mk (Kd.C_of_reads (h1 := fun _ => rfl) (hA10 _ (Kd.reads_of_C HR0.out))); have HC817 := Aside0.mk hC10; clear hA10 hC10 hi010 hsz10) | (go_at_call 51; (try (with_reducible refine callsLen (n := (l0.drop ((ji5) : Int).toNat).length) (by first | (simp only [List.length_take, List.length_drop]; done) | (simp only [List.length_take, List.length_drop]; omega) | (have h_ : ((ji5) : Int) ≤ (l0.length : Int) := of_decide_eq_true (by assumption); simp only [List.length_take, List.length_drop]; omega)) ?_)); (with_reducible refine (bits_Longest.calls k _ _ (l0.drop ((ji5) : Int).toNat) t818 _ ?side1 ?side2 A8.out).mono ?_); (case side1 => repeat (first | exact HR817.out | (with_reducible refine Kd.C_alloc ?_ _) | (with_reducible refine Kd.C_drewN ?_ _) | (with_reducible refine Kd.C_drew ?_))); (case side2 => exact HC817.out); rintro e w11 ⟨rfl, hb⟩; have n0_ := Aside0.mk (below_step (by repeat (first | (with_reducible first | exact HB.out | apply below_alloc | apply pw_below_drewN | apply below_drew1) | exact HB.out)) hb); clear HB; have HB := n0_; clear n0_; (try clear hb); (try clear hb2); (try clear hk); (try clear hi)))
      go_ret2
      exact ⟨by first | rfl | (simp [errW_none, errW_some] <;> rfl) | (simp only [← hji5]; first | rfl | (simp [errW_none, errW_some] <;> rfl)) | (simp [*, errW_none, errW_some] <;> rfl), by repeat (first | (with_reducible first | exact HB.out | apply below_alloc | apply pw_below_drewN | apply below_drew1) | exact HB.out)⟩
     ·
      rw [if_neg c9] at H
      have c9b0 : decide (t818 < 5) = false := decide_eq_false c9
      clear c9
      by_cases c12 : (ji5) < (l0.length : Int)
      ·
       rw [if_pos c12] at H
       have c12b0 : decide ((ji5) < (l0.length : Int)) = true := decide_eq_true c12
       clear c12
       replace H := Option.bind_eq_some_iff.mp H
       obtain ⟨t820, A130, H⟩ := H
       replace H : (some (true, t820)) = some (r1, r2) := H
       have A13 := Aside0.mk A130
       clear A130
       simp only [Option.some.injEq, Prod.mk.injEq] at H
       obtain ⟨rfl, rfl⟩ := H
       go_enter Try.func53, Try.ntmps53
       go_wp2_with (first | (go_at_call 32; (with_reducible refine (bits_Check.calls _ _ l0 t816 _ ?side1 ?side2 A3.out).mono ?_); (case side1 => repeat (first | exact HR0.out | (with_reducible refine Kd.C_alloc ?_ _) | (with_reducible refine Kd.C_drewN ?_ _) | (with_reducible refine Kd.C_drew ?_))); (case side2 => exact HC0.out); rintro e w' ⟨rfl, ⟨nd, rfl⟩⟩; obtain ⟨i014, hi014, _, hsz14, _⟩ := info_parts info3; obtain ⟨A14, hcut14, hA14, hC14⟩ := print_drop_of (P := Try.prog) (Value.int .i64) 0 22 3 .i64 Try.underlying22 hi014 hsz14 A0 c0 l0 (ji5) (of_decide_eq_true (by first | (with_reducible assumption) | assumption)) (of_decide_eq_true (by first | (with_reducible assumption) | assumption)) HC0.out; have HR817 := Aside0.mk (Kd.C_of_reads (h1 := fun _ => rfl) (hA14 _ (Kd.reads_of_C HR0.out))); have HC817 := Aside0.mk hC14; clear hA14 hC14 hi014 hsz14) | (go_at_call 51; (try (with_reducible refine callsLen (n := (l0.drop ((ji5) : Int).toNat).length) (by first | (simp only [List.length_take, List.length_drop]; done) | (simp only [List.length_take, List.length_drop]; omega) | (have h_ : ((ji5) : Int) ≤ (l0.length : Int) := of_decide_eq_true (by assumption); simp only [List.length_take, List.length_drop]; omega)) ?_)); (with_reducible refine (bits_Longest.calls k _ _ (l0.drop ((ji5) : Int).toNat) t818 _ ?side1 ?side2 A8.out).mono ?_); (case side1 => repeat (first | exact HR817.out | (with_reducible refine Kd.C_alloc ?_ _) | (with_reducible refine Kd.C_drewN ?_ _) | (with_reducible refine Kd.C_drew ?_))); (case side2 => exact HC817.out); rintro e w15 ⟨rfl, hb⟩; have n0_ := Aside0.mk (below_step (by repeat (first | (with_reducible first | exact HB.out | apply below_alloc | apply pw_below_drewN | apply below_drew1) | exact HB.out)) hb); clear HB; have HB := n0_; clear n0_; (try clear hb); (try clear hb2); (try clear hk); (try clear hi); have p819 : 0 ≤ ((ji5) : Int) := of_decide_eq_true (by first | (with_reducible assumption) | assumption); have q819 : (ji5) < (l0.length : Int) := of_decide_eq_true (by first | (with_reducible assumption) | assumption); obtain ⟨ad819, e819, hx819_0⟩ := Kd.at_int HR0.out (ji5) p819 q819; cases e819; replace hx819_0 := (HB.out.cell (World.block_lt_of_cell? w _ hx819_0)).trans hx819_0; replace p819 := eq_true p819; replace q819 := eq_true q819) | ((with_reducible refine gate_callee (f := 63) rfl ?_); refine goesL_ (some 26) rfl rfl Try.func63 (by kernel_rfl) rfl #[.int .i64 (rd l0 (ji5))] rfl (by (try simp only [List.map_toArray, List.map_cons, List.map_nil]); first | done | (simp only [hji5]; rfl) | rfl | (simp only [List.length_drop, List.length_take]; rfl)) ?_; (with_reducible refine (stuff_other.calls (rd l0 (ji5)) t820 _ A13.out).mono ?_); rintro e w' ⟨rfl, ⟨nd, rfl⟩⟩; refine ⟨_, rfl, ?_⟩))
       go_ret2
       exact ⟨by first | rfl | (simp [errW_none, errW_some] <;> rfl) | (simp only [← hji5]; first | rfl | (simp [errW_none, errW_some] <;> rfl)) | (simp [*, errW_none, errW_some] <;> rfl), by repeat (first | (with_reducible first | exact HB.out | apply below_alloc | apply pw_below_drewN | apply below_drew1) | exact HB.out)⟩
      ·
       rw [if_neg c12] at H
       exact absurd H (by simp)
    ·
     rw [if_neg c7] at H
     exact absurd H (by simp)
   ·
    rw [if_neg c6] at H
    exact absurd H (by simp)

end Go.Proofs.Ytipflkbpjnacnaa.PA
