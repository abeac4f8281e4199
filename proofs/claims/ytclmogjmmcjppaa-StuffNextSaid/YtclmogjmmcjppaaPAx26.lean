-- PRINTED by print.py (a twelfth state) out of the translation. Not trusted: Lean checks it.
import Derived.Test.YtclmogjmmcjppaaPAx0
import Derived.Test.YtclmogjmmcjppaaPAx1
import Derived.Test.YtclmogjmmcjppaaPAx3
import Derived.Test.YtclmogjmmcjppaaPAx17
import Derived.Test.YtclmogjmmcjppaaPAx18
import Derived.Test.YtclmogjmmcjppaaPAx21
import Derived.Test.YtclmogjmmcjppaaPAx25
namespace Go.Proofs.Ytclmogjmmcjppaa.PA
open Go.RowKit Go.Proofs.YtclmogjmmcjppaaW.PrintWords Go.Proofs.YtclmogjmmcjppaaW.PrintLast Go.Proofs.YtclmogjmmcjppaaW.PrintMore
attribute [local go_sem] max2_int min2_int max_two min_two max_three min_three max_four min_four   -- for this text's walks alone
set_option linter.unusedVariables false
set_option linter.unusedSimpArgs false

/-! ### magnetolaw05_StuffTakes: function 19 -/
mutual
def magnetolaw05_StuffTakes.j0 : Nat → List Int → Bool → Int → Bool → Option (Bool)
  | 0, _, _, _, _ => none
  | k + 1, x0, x9, x10, x45 => if x45 = true then (none) else ((magnetoref01_Check.f k x0).bind fun t825 => (if t825 ≥ 0 then (magnetolaw05_StuffTakes.j1 k x0 x9 x10 true) else ((magnetoref05_Five.f k x0).bind fun t826 => (magnetolaw05_StuffTakes.j1 k x0 x9 x10 (!t826)))))
def magnetolaw05_StuffTakes.j1 : Nat → List Int → Bool → Int → Bool → Option (Bool)
  | 0, _, _, _, _ => none
  | k + 1, x0, x9, x10, x53 => if x53 = true then (if x9 = true then (none) else (if x10 = 0 then ((magnetolaw05_awake.f k).bind fun t827 => (some t827)) else (none))) else (if x9 = true then (if 0 ≤ (wrap64 ((x0.length : Int) - 1)) then (if (wrap64 ((x0.length : Int) - 1)) < (x0.length : Int) then (if x10 = (wrap64 (1 - (rd x0 (wrap64 ((x0.length : Int) - 1))))) then ((magnetolaw05_awake.f k).bind fun t829 => (some t829)) else (none)) else (none)) else (none)) else (none))
end
def magnetolaw05_StuffTakes.f (k : Nat) (l0 : List Int) : Option (Bool) := if (l0.length : Int) > 300 then ((magnetolaw05_awake.f k).bind fun t811 => (some t811)) else ((stuff_Take.f k l0).bind fun bt812 => ((magnetoref05_Take.f k l0).bind fun bt817 => ((stuff_Next.f k l0).bind fun bt822 => ((magnetolaw05_ints.f k bt812.1 bt817.1).bind fun t824 => (if t824 = true then (if bt812.2.1 = bt817.2.1 then (magnetolaw05_StuffTakes.j0 k l0 bt822.1 bt822.2 (bt812.2.2 != bt817.2.2)) else (none)) else (none))))))
theorem magnetolaw05_StuffTakes.mono_l : ∀ k, (∀ y0 y1 y2 y3, LeO (magnetolaw05_StuffTakes.j0 k y0 y1 y2 y3) (magnetolaw05_StuffTakes.j0 (k + 1) y0 y1 y2 y3)) ∧ (∀ y0 y1 y2 y3, LeO (magnetolaw05_StuffTakes.j1 k y0 y1 y2 y3) (magnetolaw05_StuffTakes.j1 (k + 1) y0 y1 y2 y3))
  | 0 => ⟨fun _ _ _ _ r h => by simp [magnetolaw05_StuffTakes.j0] at h, fun _ _ _ _ r h => by simp [magnetolaw05_StuffTakes.j1] at h⟩
  | k + 1 => by
    obtain ⟨ih0, ih1⟩ := magnetolaw05_StuffTakes.mono_l k
    refine ⟨?_, ?_⟩
    · intro y0 y1 y2 y3
      unfold magnetolaw05_StuffTakes.j0
      repeat' first
      | (with_reducible exact ih0 _ _ _ _)
      | (with_reducible exact ih1 _ _ _ _)
      | (with_reducible exact magnetolaw05_awake.mono _)
      | (with_reducible exact magnetolaw05_ints.mono _ _ _)
      | (with_reducible exact magnetoref01_Check.mono _ _)
      | (with_reducible exact magnetoref05_Five.mono _ _)
      | (with_reducible exact magnetoref05_Take.mono _ _)
      | (with_reducible exact stuff_Next.mono _ _)
      | (with_reducible exact stuff_Take.mono _ _)
      | (with_reducible exact LeO.refl _)
      | (with_reducible exact LeO.none _)
      | (with_reducible refine LeO.ite ?_ ?_)
      | (with_reducible refine LeO.bind ?_ (fun _ => ?_))
      | exact ih0 _ _ _ _
      | exact ih1 _ _ _ _
      | exact magnetolaw05_awake.mono _
      | exact magnetolaw05_ints.mono _ _ _
      | exact magnetoref01_Check.mono _ _
      | exact magnetoref05_Five.mono _ _
      | exact magnetoref05_Take.mono _ _
      | exact stuff_Next.mono _ _
      | exact stuff_Take.mono _ _
      | exact LeO.none _
      | refine LeO.ite ?_ ?_
      | refine LeO.bind ?_ (fun _ => ?_)
    · intro y0 y1 y2 y3
      unfold magnetolaw05_StuffTakes.j1
      repeat' first
      | (with_reducible exact ih0 _ _ _ _)
      | (with_reducible exact ih1 _ _ _ _)
      | (with_reducible exact magnetolaw05_awake.mono _)
      | (with_reducible exact magnetolaw05_ints.mono _ _ _)
      | (with_reducible exact magnetoref01_Check.mono _ _)
      | (with_reducible exact magnetoref05_Five.mono _ _)
      | (with_reducible exact magnetoref05_Take.mono _ _)
      | (with_reducible exact stuff_Next.mono _ _)
      | (with_reducible exact stuff_Take.mono _ _)
      | (with_reducible exact LeO.refl _)
      | (with_reducible exact LeO.none _)
      | (with_reducible refine LeO.ite ?_ ?_)
      | (with_reducible refine LeO.bind ?_ (fun _ => ?_))
      | exact ih0 _ _ _ _
      | exact ih1 _ _ _ _
      | exact magnetolaw05_awake.mono _
      | exact magnetolaw05_ints.mono _ _ _
      | exact magnetoref01_Check.mono _ _
      | exact magnetoref05_Five.mono _ _
      | exact magnetoref05_Take.mono _ _
      | exact stuff_Next.mono _ _
      | exact stuff_Take.mono _ _
      | exact LeO.none _
      | refine LeO.ite ?_ ?_
      | refine LeO.bind ?_ (fun _ => ?_)
theorem magnetolaw05_StuffTakes.mono : ∀ a0 k, LeO (magnetolaw05_StuffTakes.f k a0) (magnetolaw05_StuffTakes.f (k + 1) a0) := by
  intro a0 k
  obtain ⟨ih0, ih1⟩ := magnetolaw05_StuffTakes.mono_l k
  unfold magnetolaw05_StuffTakes.f
  repeat' first
      | (with_reducible exact ih0 _ _ _ _)
      | (with_reducible exact ih1 _ _ _ _)
      | (with_reducible exact magnetolaw05_awake.mono _)
      | (with_reducible exact magnetolaw05_ints.mono _ _ _)
      | (with_reducible exact magnetoref01_Check.mono _ _)
      | (with_reducible exact magnetoref05_Five.mono _ _)
      | (with_reducible exact magnetoref05_Take.mono _ _)
      | (with_reducible exact stuff_Next.mono _ _)
      | (with_reducible exact stuff_Take.mono _ _)
      | (with_reducible exact LeO.refl _)
      | (with_reducible exact LeO.none _)
      | (with_reducible refine LeO.ite ?_ ?_)
      | (with_reducible refine LeO.bind ?_ (fun _ => ?_))
      | exact ih0 _ _ _ _
      | exact ih1 _ _ _ _
      | exact magnetolaw05_awake.mono _
      | exact magnetolaw05_ints.mono _ _ _
      | exact magnetoref01_Check.mono _ _
      | exact magnetoref05_Five.mono _ _
      | exact magnetoref05_Take.mono _ _
      | exact stuff_Next.mono _ _
      | exact stuff_Take.mono _ _
      | exact LeO.none _
      | refine LeO.ite ?_ ?_
      | refine LeO.bind ?_ (fun _ => ?_)
set_option maxHeartbeats 8000000 in
set_option maxRecDepth 100000 in
theorem magnetolaw05_StuffTakes.calls (k : Nat) (A0 : Option Addr) (c0 : Nat) (l0 : List Int) (r : Bool) (w : World) (hr0 : Kd.C (Kd.int .i64) w A0 l0.length l0) (hc0 : l0.length ≤ c0) (h : magnetolaw05_StuffTakes.f k l0 = some r) :
    Calls Try.prog 19 #[.slice A0 l0.length c0] w fun e w' => e = .returned (.bool r) ∧ Below w.heap.size w w' := by
  have HR0 := Aside0.mk hr0
  have HC0 := Aside0.mk hc0
  clear hr0 hc0
  have HB := Aside0.mk (Below.refl w.heap.size w)
  have H : (if (l0.length : Int) > 300 then ((magnetolaw05_awake.f k).bind fun t811 => (some t811)) else ((stuff_Take.f k l0).bind fun bt812 => ((magnetoref05_Take.f k l0).bind fun bt817 => ((stuff_Next.f k l0).bind fun bt822 => ((magnetolaw05_ints.f k bt812.1 bt817.1).bind fun t824 => (if t824 = true then (if bt812.2.1 = bt817.2.1 then (magnetolaw05_StuffTakes.j0 k l0 bt822.1 bt822.2 (bt812.2.2 != bt817.2.2)) else (none)) else (none))))))) = some r := h
  clear h
  by_cases c2 : (l0.length : Int) > 300
  · rw [if_pos c2] at H
    have c2b0 : decide (300 < (l0.length : Int)) = true := decide_eq_true c2
    have c2b1 : decide (300 < l0.length) = true := decide_eq_true (by omega)
    clear c2
    replace H := Option.bind_eq_some_iff.mp H
    obtain ⟨t811, A30, H⟩ := H
    replace H : (some t811) = some r := H
    have A3 := Aside0.mk A30
    clear A30
    obtain rfl := Option.some.inj H
    go_enter Try.func19, Try.ntmps19
    go_wp2_with (first | ((with_reducible refine gate_callee (f := 45) rfl ?_); refine goesL_ (some 14) rfl rfl Try.func45 (by kernel_rfl) rfl #[] rfl (by (try simp only [List.map_toArray, List.map_cons, List.map_nil]); first | done | rfl | (simp only [List.length_drop, List.length_take]; rfl)) ?_; (with_reducible refine (magnetolaw05_awake.calls k  t811 _ A3.out).mono ?_); rintro e w4 ⟨rfl, hb⟩; refine ⟨_, rfl, ?_⟩; have n0_ := Aside0.mk (below_step (by repeat (first | (with_reducible first | exact HB.out | apply below_alloc | apply pw_below_drewN | apply below_drew1) | exact HB.out)) hb); clear HB; have HB := n0_; clear n0_; (try clear hb); (try clear hb2); (try clear hk); (try clear hi)))
    go_ret
    exact ⟨by first | rfl | (simp [errW_none, errW_some] <;> rfl) | (simp [*, errW_none, errW_some] <;> rfl), by repeat (first | (with_reducible first | exact HB.out | apply below_alloc | apply pw_below_drewN | apply below_drew1) | exact HB.out)⟩
  · rw [if_neg c2] at H
    have c2b0 : decide (300 < (l0.length : Int)) = false := decide_eq_false c2
    have c2b1 : decide (300 < l0.length) = false := decide_eq_false (by omega)
    clear c2
    replace H := Option.bind_eq_some_iff.mp H
    obtain ⟨⟨t812, t813, t814⟩, A50, H⟩ := H
    replace H : ((magnetoref05_Take.f k l0).bind fun bt817 => ((stuff_Next.f k l0).bind fun bt822 => ((magnetolaw05_ints.f k t812 bt817.1).bind fun t824 => (if t824 = true then (if t813 = bt817.2.1 then (magnetolaw05_StuffTakes.j0 k l0 bt822.1 bt822.2 (t814 != bt817.2.2)) else (none)) else (none))))) = some r := H
    have A5 := Aside0.mk A50
    clear A50
    replace H := Option.bind_eq_some_iff.mp H
    obtain ⟨⟨t817, t818, t819⟩, A60, H⟩ := H
    replace H : ((stuff_Next.f k l0).bind fun bt822 => ((magnetolaw05_ints.f k t812 t817).bind fun t824 => (if t824 = true then (if t813 = t818 then (magnetolaw05_StuffTakes.j0 k l0 bt822.1 bt822.2 (t814 != t819)) else (none)) else (none)))) = some r := H
    have A6 := Aside0.mk A60
    clear A60
    replace H := Option.bind_eq_some_iff.mp H
    obtain ⟨⟨t822, t823⟩, A70, H⟩ := H
    replace H : ((magnetolaw05_ints.f k t812 t817).bind fun t824 => (if t824 = true then (if t813 = t818 then (magnetolaw05_StuffTakes.j0 k l0 t822 t823 (t814 != t819)) else (none)) else (none))) = some r := H
    have A7 := Aside0.mk A70
    clear A70
    have HC8 := Aside0.mk H
    clear H
    go_enter Try.func19, Try.ntmps19
    go_upto_region 6 with (first | ((with_reducible refine gate_callee (f := 51) rfl ?_); refine goesL_ (some 17) rfl rfl Try.func51 (by kernel_rfl) rfl #[.slice A0 l0.length c0] rfl (by (try simp only [List.map_toArray, List.map_cons, List.map_nil]); first | done | rfl | (simp only [List.length_drop, List.length_take]; rfl)) ?_; (with_reducible refine (stuff_Take.calls k _ _ l0 t812 t813 t814 _ ?side1 ?side2 A5.out).mono ?_); (case side1 => repeat (first | exact HR0.out | (with_reducible refine Kd.C_alloc ?_ _) | (with_reducible refine Kd.C_drewN ?_ _) | (with_reducible refine Kd.C_drew ?_))); (case side2 => exact HC0.out); rintro e w9 ⟨v815, rfl, ho0, hb⟩; refine ⟨_, rfl, ?_⟩; have n0_ := Aside0.mk (Kd.R_lower ho0 (below_size (by repeat (first | (with_reducible first | exact HB.out | apply below_alloc | apply pw_below_drewN | apply below_drew1) | exact HB.out)))); have n1_ := Aside0.mk (below_step (by repeat (first | (with_reducible first | exact HB.out | apply below_alloc | apply pw_below_drewN | apply below_drew1) | exact HB.out)) hb); clear HB; have HO816 := n0_; have HB := n1_; clear n0_ n1_; (try clear hb); (try clear hb2); (try clear hk); (try clear hi); (try clear ho0)) | ((with_reducible refine gate_callee (f := 52) rfl ?_); refine goesL_ (some 23) rfl rfl Try.func52 (by kernel_rfl) rfl #[.slice A0 l0.length c0] rfl (by (try simp only [List.map_toArray, List.map_cons, List.map_nil]); first | done | rfl | (simp only [List.length_drop, List.length_take]; rfl)) ?_; (with_reducible refine (magnetoref05_Take.calls k _ _ l0 t817 t818 t819 _ ?side1 ?side2 A6.out).mono ?_); (case side1 => repeat (first | exact (Kd.C_below HR0.out HB.out) | (with_reducible refine Kd.C_alloc ?_ _) | (with_reducible refine Kd.C_drewN ?_ _) | (with_reducible refine Kd.C_drew ?_))); (case side2 => exact HC0.out); rintro e w10 ⟨v820, rfl, ho0, hb⟩; refine ⟨_, rfl, ?_⟩; have n0_ := Aside0.mk (Kd.R_elder' (by (with_reducible repeat (first | apply Kd.R_alloc | apply Kd.R_drewN | apply Kd.R_drew)); exact HO816.out) (Kd.R_base ho0) hb); have n1_ := Aside0.mk (Kd.R_lower (Kd.R_new' ho0 (Kd.R_lt (by (with_reducible repeat (first | apply Kd.R_alloc | apply Kd.R_drewN | apply Kd.R_drew)); exact HO816.out))) (below_size (by repeat (first | (with_reducible first | exact HB.out | apply below_alloc | apply pw_below_drewN | apply below_drew1) | exact HB.out)))); have n2_ := Aside0.mk (below_step (by repeat (first | (with_reducible first | exact HB.out | apply below_alloc | apply pw_below_drewN | apply below_drew1) | exact HB.out)) hb); clear HO816; clear HB; have HO816 := n0_; have HO821 := n1_; have HB := n2_; clear n0_ n1_ n2_; (try clear hb); (try clear hb2); (try clear hk); (try clear hi); (try clear ho0)) | ((with_reducible refine gate_callee (f := 53) rfl ?_); refine goesL_ (some 29) rfl rfl Try.func53 (by kernel_rfl) rfl #[.slice A0 l0.length c0] rfl (by (try simp only [List.map_toArray, List.map_cons, List.map_nil]); first | done | rfl | (simp only [List.length_drop, List.length_take]; rfl)) ?_; (with_reducible refine (stuff_Next.calls k _ _ l0 t822 t823 _ ?side1 ?side2 A7.out).mono ?_); (case side1 => repeat (first | exact (Kd.C_below HR0.out HB.out) | (with_reducible refine Kd.C_alloc ?_ _) | (with_reducible refine Kd.C_drewN ?_ _) | (with_reducible refine Kd.C_drew ?_))); (case side2 => exact HC0.out); rintro e w11 ⟨rfl, hb⟩; refine ⟨_, rfl, ?_⟩; have n0_ := Aside0.mk (Kd.R_below (by (with_reducible repeat (first | apply Kd.R_alloc | apply Kd.R_drewN | apply Kd.R_drew)); exact HO816.out) hb); have n1_ := Aside0.mk (Kd.R_below (by (with_reducible repeat (first | apply Kd.R_alloc | apply Kd.R_drewN | apply Kd.R_drew)); exact HO821.out) hb); have n2_ := Aside0.mk (below_step (by repeat (first | (with_reducible first | exact HB.out | apply below_alloc | apply pw_below_drewN | apply below_drew1) | exact HB.out)) hb); clear HO816; clear HO821; clear HB; have HO816 := n0_; have HO821 := n1_; have HB := n2_; clear n0_ n1_ n2_; (try clear hb); (try clear hb2); (try clear hk); (try clear hi)))
    (try simp only [Act.put, List.setIfInBounds_toArray, List.set_cons_zero, List.set_cons_succ])
    go_cut [45] (fun v45 wc => ∃ (kq : Nat) (x45_7 : Bool), v45 = .bool x45_7 ∧ Aside0 (magnetolaw05_StuffTakes.j0 kq l0 t822 t823 x45_7 = some r) ∧ Aside0 (kq ≤ k) ∧ Aside0 (Below w.heap.size w wc))
    case first =>
      have H := HC8.out
      clear HC8
      replace H := Option.bind_eq_some_iff.mp H
      obtain ⟨t824, A120, H⟩ := H
      replace H : (if t824 = true then (if t813 = t818 then (magnetolaw05_StuffTakes.j0 k l0 t822 t823 (t814 != t819)) else (none)) else (none)) = some r := H
      have A12 := Aside0.mk A120
      clear A120
      by_cases c13 : t824 = true
      · subst c13
        have H1 : (if t813 = t818 then (magnetolaw05_StuffTakes.j0 k l0 t822 t823 (t814 != t819)) else (none)) = some r := by rw [if_pos rfl] at H; exact H
        clear H
        have H := H1
        clear H1
        by_cases c14 : t813 = t818
        · rw [if_pos c14] at H
          have c14b0 : (t813 == t818) = true := beq_iff_eq.mpr c14
          have c14b1 : (t813 != t818) = false := bne_eq_false_iff_eq.mpr c14
          clear c14
          (first | rw [c14b0] | (simp only [i64_w, i32_w]; rw [c14b0]) | skip)
          have H' := Aside0.mk H
          clear H
          obtain ⟨Ao15, co15, eo15⟩ := Kd.R_slice HO816.out
          subst eo15
          obtain ⟨Ao16, co16, eo16⟩ := Kd.R_slice HO821.out
          subst eo16
          go_wp2_with (first | ((with_reducible refine gate_callee (f := 47) rfl ?_); refine goesL_ (some 34) rfl rfl Try.func47 (by kernel_rfl) rfl #[.slice Ao15 t812.length co15, .slice Ao16 t817.length co16] rfl (by (try simp only [List.map_toArray, List.map_cons, List.map_nil]); first | done | rfl | (simp only [List.length_drop, List.length_take]; rfl)) ?_; (with_reducible refine (magnetolaw05_ints.calls k _ _ t812 _ _ t817 true _ ?side1 ?side2 ?side3 ?side4 A12.out).mono ?_); (case side1 => repeat (first | exact (Kd.R_reads' HO816.out).2.2 | (with_reducible refine Kd.C_alloc ?_ _) | (with_reducible refine Kd.C_drewN ?_ _) | (with_reducible refine Kd.C_drew ?_))); (case side2 => exact (Kd.R_reads' HO816.out).2.1); (case side3 => repeat (first | exact (Kd.R_reads' HO821.out).2.2 | (with_reducible refine Kd.C_alloc ?_ _) | (with_reducible refine Kd.C_drewN ?_ _) | (with_reducible refine Kd.C_drew ?_))); (case side4 => exact (Kd.R_reads' HO821.out).2.1); rintro e w' ⟨rfl, ⟨nd, rfl⟩⟩; refine ⟨_, rfl, ?_⟩))
          go_meet
          case rel => exact ⟨_, ((t814 != t819)), (by first | rfl | (simp; done) | (simp [*]; done)), H', ⟨by first | omega | exact Nat.le_refl _⟩, ⟨by repeat (first | (with_reducible first | exact HB.out | apply below_alloc | apply pw_below_drewN | apply below_drew1) | exact HB.out)⟩⟩
        · rw [if_neg c14] at H
          exact absurd H (by simp)
      · replace c13 := Bool.eq_false_iff.mpr c13
        subst c13
        have H1 : (none) = some r := by rw [if_neg (show ¬ (false = true) by decide)] at H; exact H
        clear H
        have H := H1
        clear H1
        exact absurd H (by simp)
    case rest =>
      clear HC8
      try clear c1
      try clear c2
      try clear c2b0
      try clear c2b1
      try clear p2
      try clear c4
      try clear c5
      try clear c13
      try clear c14
      try clear c14b0
      try clear c14b1
      obtain ⟨kq, x45_7, rfl, HA, HJ7, HB⟩ := hcut
      cases kq with
      | zero => exact absurd HA.out (by simp [magnetolaw05_StuffTakes.j0])
      | succ kj7 =>
        have H := HA.out
        clear HA
        simp only [magnetolaw05_StuffTakes.j0] at H
        by_cases c17 : x45_7 = true
        · subst c17
          have H1 : (none) = some r := by rw [if_pos rfl] at H; exact H
          clear H
          have H := H1
          clear H1
          exact absurd H (by simp)
        · replace c17 := Bool.eq_false_iff.mpr c17
          subst c17
          have H1 : ((magnetoref01_Check.f kj7 l0).bind fun t825 => (if t825 ≥ 0 then (magnetolaw05_StuffTakes.j1 kj7 l0 t822 t823 true) else ((magnetoref05_Five.f kj7 l0).bind fun t826 => (magnetolaw05_StuffTakes.j1 kj7 l0 t822 t823 (!t826))))) = some r := by rw [if_neg (show ¬ (false = true) by decide)] at H; exact H
          clear H
          have H := H1
          clear H1
          have HC18 := Aside0.mk H
          clear H
          go_upto_region 8 with (fail)
          go_cut [53] (fun v53 wc => ∃ (kq : Nat) (x53_17 : Bool), v53 = .bool x53_17 ∧ Aside0 (magnetolaw05_StuffTakes.j1 kq l0 t822 t823 x53_17 = some r) ∧ Aside0 (kq ≤ kj7) ∧ Aside0 (Below w.heap.size w wc))
          case first =>
            have H := HC18.out
            clear HC18
            replace H := Option.bind_eq_some_iff.mp H
            obtain ⟨t825, A190, H⟩ := H
            replace H : (if t825 ≥ 0 then (magnetolaw05_StuffTakes.j1 kj7 l0 t822 t823 true) else ((magnetoref05_Five.f kj7 l0).bind fun t826 => (magnetolaw05_StuffTakes.j1 kj7 l0 t822 t823 (!t826)))) = some r := H
            have A19 := Aside0.mk A190
            clear A190
            by_cases c20 : t825 ≥ 0
            · rw [if_pos c20] at H
              have c20b0 : decide (0 ≤ t825) = true := decide_eq_true c20
              clear c20
              (first | rw [c20b0] | (simp only [i64_w, i32_w]; rw [c20b0]) | skip)
              have H' := Aside0.mk H
              clear H
              go_wp2_with (first | ((with_reducible refine gate_callee (f := 22) rfl ?_); refine goesL_ (some 47) rfl rfl Try.func22 (by kernel_rfl) rfl #[.slice A0 l0.length c0] rfl (by (try simp only [List.map_toArray, List.map_cons, List.map_nil]); first | done | rfl | (simp only [List.length_drop, List.length_take]; rfl)) ?_; (with_reducible refine (magnetoref01_Check.calls kj7 _ _ l0 t825 _ ?side1 ?side2 A19.out).mono ?_); (case side1 => repeat (first | exact (Kd.C_below HR0.out HB.out) | (with_reducible refine Kd.C_alloc ?_ _) | (with_reducible refine Kd.C_drewN ?_ _) | (with_reducible refine Kd.C_drew ?_))); (case side2 => exact HC0.out); rintro e w' ⟨rfl, ⟨nd, rfl⟩⟩; refine ⟨_, rfl, ?_⟩))
              go_meet
              case rel => exact ⟨_, (true), (by first | rfl | (simp; done) | (simp [*]; done)), H', ⟨by have := HJ7.out; first | omega | exact Nat.le_refl _⟩, ⟨by repeat (first | (with_reducible first | exact HB.out | apply below_alloc | apply pw_below_drewN | apply below_drew1) | exact HB.out)⟩⟩
            · rw [if_neg c20] at H
              have c20b0 : decide (0 ≤ t825) = false := decide_eq_false c20
              clear c20
              (first | rw [c20b0] | (simp only [i64_w, i32_w]; rw [c20b0]) | skip)
              replace H := Option.bind_eq_some_iff.mp H
              obtain ⟨t826, A210, H⟩ := H
              replace H : (magnetolaw05_StuffTakes.j1 kj7 l0 t822 t823 (!t826)) = some r := H
              have A21 := Aside0.mk A210
              clear A210
              have H' := Aside0.mk H
              clear H
              go_wp2_with (first | ((with_reducible refine gate_callee (f := 22) rfl ?_); refine goesL_ (some 47) rfl rfl Try.func22 (by kernel_rfl) rfl #[.slice A0 l0.length c0] rfl (by (try simp only [List.map_toArray, List.map_cons, List.map_nil]); first | done | rfl | (simp only [List.length_drop, List.length_take]; rfl)) ?_; (with_reducible refine (magnetoref01_Check.calls kj7 _ _ l0 t825 _ ?side1 ?side2 A19.out).mono ?_); (case side1 => repeat (first | exact (Kd.C_below HR0.out HB.out) | (with_reducible refine Kd.C_alloc ?_ _) | (with_reducible refine Kd.C_drewN ?_ _) | (with_reducible refine Kd.C_drew ?_))); (case side2 => exact HC0.out); rintro e w' ⟨rfl, ⟨nd, rfl⟩⟩; refine ⟨_, rfl, ?_⟩) | (go_at_call 54; (with_reducible refine (magnetoref05_Five.calls kj7 _ _ l0 t826 _ ?side1 ?side2 A21.out).mono ?_); (case side1 => repeat (first | exact (Kd.C_below HR0.out (by repeat (first | (with_reducible first | exact HB.out | apply below_alloc | apply pw_below_drewN | apply below_drew1) | exact HB.out))) | (with_reducible refine Kd.C_alloc ?_ _) | (with_reducible refine Kd.C_drewN ?_ _) | (with_reducible refine Kd.C_drew ?_))); (case side2 => exact HC0.out); rintro e w' ⟨rfl, ⟨nd, rfl⟩⟩))
              go_meet
              case rel => exact ⟨_, (!t826), (by first | rfl | (simp; done) | (simp [*]; done)), H', ⟨by have := HJ7.out; first | omega | exact Nat.le_refl _⟩, ⟨by repeat (first | (with_reducible first | exact HB.out | apply below_alloc | apply pw_below_drewN | apply below_drew1) | exact HB.out)⟩⟩
          case rest =>
            clear HC18
            try clear c1
            try clear c2
            try clear c2b0
            try clear c2b1
            try clear p2
            try clear c4
            try clear c5
            try clear c13
            try clear c14
            try clear c14b0
            try clear c14b1
            try clear c17
            try clear c19
            try clear c20
            try clear c20b0
            try clear p2
            obtain ⟨kq, x53_17, rfl, HA, HJ17, HB⟩ := hcut
            cases kq with
            | zero => exact absurd HA.out (by simp [magnetolaw05_StuffTakes.j1])
            | succ kj17 =>
              have H := HA.out
              clear HA
              simp only [magnetolaw05_StuffTakes.j1] at H
              by_cases c22 : x53_17 = true
              · subst c22
                have H1 : (if t822 = true then (none) else (if t823 = 0 then ((magnetolaw05_awake.f kj17).bind fun t827 => (some t827)) else (none))) = some r := by rw [if_pos rfl] at H; exact H
                clear H
                have H := H1
                clear H1
                by_cases c23 : t822 = true
                · subst c23
                  have H1 : (none) = some r := by rw [if_pos rfl] at H; exact H
                  clear H
                  have H := H1
                  clear H1
                  exact absurd H (by simp)
                · replace c23 := Bool.eq_false_iff.mpr c23
                  subst c23
                  have H1 : (if t823 = 0 then ((magnetolaw05_awake.f kj17).bind fun t827 => (some t827)) else (none)) = some r := by rw [if_neg (show ¬ (false = true) by decide)] at H; exact H
                  clear H
                  have H := H1
                  clear H1
                  by_cases c24 : t823 = 0
                  · rw [if_pos c24] at H
                    have c24b0 : (t823 == 0) = true := beq_iff_eq.mpr c24
                    have c24b1 : (t823 != 0) = false := bne_eq_false_iff_eq.mpr c24
                    clear c24
                    replace H := Option.bind_eq_some_iff.mp H
                    obtain ⟨t827, A250, H⟩ := H
                    replace H : (some t827) = some r := H
                    have A25 := Aside0.mk A250
                    clear A250
                    obtain rfl := Option.some.inj H
                    go_wp2_with (first | (go_at_call 45; (with_reducible refine (magnetolaw05_awake.calls kj17  t827 _ A25.out).mono ?_); rintro e w26 ⟨rfl, hb⟩; have n0_ := Aside0.mk (below_step (by repeat (first | (with_reducible first | exact HB.out | apply below_alloc | apply pw_below_drewN | apply below_drew1) | exact HB.out)) hb); clear HB; have HB := n0_; clear n0_; (try clear hb); (try clear hb2); (try clear hk); (try clear hi)))
                    go_ret
                    exact ⟨by first | rfl | (simp [errW_none, errW_some] <;> rfl) | (simp [*, errW_none, errW_some] <;> rfl), by repeat (first | (with_reducible first | exact HB.out | apply below_alloc | apply pw_below_drewN | apply below_drew1) | exact HB.out)⟩
                  · rw [if_neg c24] at H
                    exact absurd H (by simp)
              · replace c22 := Bool.eq_false_iff.mpr c22
                subst c22
                have H1 : (if t822 = true then (if 0 ≤ (wrap64 ((l0.length : Int) - 1)) then (if (wrap64 ((l0.length : Int) - 1)) < (l0.length : Int) then (if t823 = (wrap64 (1 - (rd l0 (wrap64 ((l0.length : Int) - 1))))) then ((magnetolaw05_awake.f kj17).bind fun t829 => (some t829)) else (none)) else (none)) else (none)) else (none)) = some r := by rw [if_neg (show ¬ (false = true) by decide)] at H; exact H
                clear H
                have H := H1
                clear H1
                by_cases c27 : t822 = true
                · subst c27
                  have H1 : (if 0 ≤ (wrap64 ((l0.length : Int) - 1)) then (if (wrap64 ((l0.length : Int) - 1)) < (l0.length : Int) then (if t823 = (wrap64 (1 - (rd l0 (wrap64 ((l0.length : Int) - 1))))) then ((magnetolaw05_awake.f kj17).bind fun t829 => (some t829)) else (none)) else (none)) else (none)) = some r := by rw [if_pos rfl] at H; exact H
                  clear H
                  have H := H1
                  clear H1
                  obtain ⟨ji28, hji28⟩ : ∃ j_ : Int, (wrap64 ((l0.length : Int) - 1)) = j_ := ⟨_, rfl⟩
                  replace H : (if 0 ≤ (ji28) then (if (ji28) < (l0.length : Int) then (if t823 = (wrap64 (1 - (rd l0 (ji28)))) then ((magnetolaw05_awake.f kj17).bind fun t829 => (some t829)) else (none)) else (none)) else (none)) = some r := by first | (rw [hji28] at H; exact H) | (simp only [hji28] at H ⊢; exact H)
                  have hji28w : (IntKind.i64.wrap ((l0.length : Int) - 1)) = ji28 := (i64_w _).trans hji28
                  by_cases c29 : 0 ≤ (ji28)
                  · rw [if_pos c29] at H
                    have c29b0 : decide (0 ≤ (ji28)) = true := decide_eq_true c29
                    clear c29
                    by_cases c30 : (ji28) < (l0.length : Int)
                    · rw [if_pos c30] at H
                      have c30b0 : decide ((ji28) < (l0.length : Int)) = true := decide_eq_true c30
                      clear c30
                      by_cases c31 : t823 = (wrap64 (1 - (rd l0 (ji28))))
                      · rw [if_pos c31] at H
                        have c31b0 : (t823 == (wrap64 (1 - (rd l0 (ji28))))) = true := beq_iff_eq.mpr c31
                        have c31b1 : (t823 != (wrap64 (1 - (rd l0 (ji28))))) = false := bne_eq_false_iff_eq.mpr c31
                        clear c31
                        replace H := Option.bind_eq_some_iff.mp H
                        obtain ⟨t829, A320, H⟩ := H
                        replace H : (some t829) = some r := H
                        have A32 := Aside0.mk A320
                        clear A320
                        obtain rfl := Option.some.inj H
                        have p828 : 0 ≤ ((ji28) : Int) := of_decide_eq_true (by first | (with_reducible assumption) | assumption)
                        have q828 : (ji28) < (l0.length : Int) := of_decide_eq_true (by first | (with_reducible assumption) | assumption)
                        obtain ⟨ad828, e828, hx828_0⟩ := Kd.at_int HR0.out (ji28) p828 q828
                        cases e828
                        replace hx828_0 := (HB.out.cell (World.block_lt_of_cell? w _ hx828_0)).trans hx828_0
                        replace p828 := eq_true p828
                        replace q828 := eq_true q828
                        go_wp2_with (first | (go_at_call 45; (with_reducible refine (magnetolaw05_awake.calls kj17  t829 _ A32.out).mono ?_); rintro e w33 ⟨rfl, hb⟩; have n0_ := Aside0.mk (below_step (by repeat (first | (with_reducible first | exact HB.out | apply below_alloc | apply pw_below_drewN | apply below_drew1) | exact HB.out)) hb); clear HB; have HB := n0_; clear n0_; (try clear hb); (try clear hb2); (try clear hk); (try clear hi)))
                        go_ret
                        exact ⟨by first | rfl | (simp [errW_none, errW_some] <;> rfl) | (simp only [← hji28]; first | rfl | (simp [errW_none, errW_some] <;> rfl)) | (simp [*, errW_none, errW_some] <;> rfl), by repeat (first | (with_reducible first | exact HB.out | apply below_alloc | apply pw_below_drewN | apply below_drew1) | exact HB.out)⟩
                      · rw [if_neg c31] at H
                        exact absurd H (by simp)
                    · rw [if_neg c30] at H
                      exact absurd H (by simp)
                  · rw [if_neg c29] at H
                    exact absurd H (by simp)
                · replace c27 := Bool.eq_false_iff.mpr c27
                  subst c27
                  have H1 : (none) = some r := by rw [if_neg (show ¬ (false = true) by decide)] at H; exact H
                  clear H
                  have H := H1
                  clear H1
                  exact absurd H (by simp)

/-- THE ONE PURE STATEMENT of magnetolaw05_StuffTakes: yours. -/
def magnetolaw05_StuffTakes.Pure : Prop := ∀ (l0 : List Int), l0.length ≤ maxLen → l0.length * 8 ≤ 140737488351232 → (∀ x ∈ l0, (Lit.int .i64 x).wf = true) → ∃ k, magnetolaw05_StuffTakes.f k l0 = some true
theorem magnetolaw05_StuffTakes.walk (P : magnetolaw05_StuffTakes.Pure) (a0 : Option Addr) (len0 cap0 : Nat) (z0 : List Int) (w : World) (w0 : (a0 = none ∧ len0 = 0 ∧ cap0 = 0 ∧ z0 = []) ∨ ∃ x, a0 = some x ∧ len0 ≤ cap0 ∧ cap0 ≤ maxLen ∧ z0.length = cap0 ∧ (∀ i, i < z0.length → w.cell? (x.add i) = some (.int .i64 (z0.getD i 0))) ∧ ∀ n ∈ z0, (Lit.int .i64 n).wf = true) (y0 : len0 * 8 ≤ 140737488351232) :
    Calls Try.prog 19 #[.slice a0 len0 cap0] w fun e w' => e = .returned (.bool true) ∧ Below w.heap.size w w' := by
  obtain ⟨l0, rfl, hr0, hm0, hw0, hc0⟩ := ReadsInt.ofRowC w0
  obtain ⟨k, h⟩ := P l0 hm0 y0 hw0
  refine (magnetolaw05_StuffTakes.calls k _ _ l0 true w (Kd.C_of_reads (d := (0 : Int)) (h1 := fun _ => rfl) hr0) hc0 h).mono ?_
  rintro e w' ⟨rfl, hd⟩
  exact ⟨rfl, hd⟩

/-! ### magnetolaw05_StuffNext: function 20 -/
def magnetolaw05_StuffNext.l0 : Nat → List Int → List Int → Int → Int → Option (Bool)
  | 0, _, _, _, _ => none
  | k + 1, x0, x5, x6, x7 => if x7 < (x5.length : Int) then (if 0 ≤ x7 then (if x7 ≤ (x5.length : Int) then ((stuff_Next.f k (x5.take (x7 : Int).toNat)).bind fun bt845 => (if bt845.1 = true then (if (rd x5 x7) = bt845.2 then (magnetolaw05_StuffNext.l0 k x0 x5 x6 (wrap64 (x7 + 1))) else (none)) else (if x6 ≥ (x0.length : Int) then (none) else (if 0 ≤ x6 then (if x6 < (x0.length : Int) then (if (rd x5 x7) = (rd x0 x6) then (magnetolaw05_StuffNext.l0 k x0 x5 (wrap64 (x6 + 1)) (wrap64 (x7 + 1))) else (none)) else (none)) else (none))))) else (none)) else (none)) else ((stuff_Next.f k x5).bind fun bt838 => (if x6 = (x0.length : Int) then (if bt838.1 = true then (none) else ((magnetolaw05_awake.f k).bind fun t840 => (some t840))) else (none)))
def magnetolaw05_StuffNext.f (k : Nat) (l0 : List Int) : Option (Bool) := if (l0.length : Int) > 300 then ((magnetolaw05_awake.f k).bind fun t830 => (some t830)) else ((bits_Check.f l0).bind fun t831 => (if t831 ≥ 0 then ((stuff_Next.f k l0).bind fun bt832 => (if bt832.1 = true then (none) else (if bt832.2 = 0 then ((magnetolaw05_awake.f k).bind fun t834 => (some t834)) else (none)))) else ((stuff_Add.f l0).bind fun t835 => (magnetolaw05_StuffNext.l0 k l0 t835 0 0))))
theorem magnetolaw05_StuffNext.mono_l : ∀ k, (∀ y0 y1 y2 y3, LeO (magnetolaw05_StuffNext.l0 k y0 y1 y2 y3) (magnetolaw05_StuffNext.l0 (k + 1) y0 y1 y2 y3))
  | 0 => fun _ _ _ _ r h => by simp [magnetolaw05_StuffNext.l0] at h
  | k + 1 => by
    have ih0 := magnetolaw05_StuffNext.mono_l k
    · intro y0 y1 y2 y3
      unfold magnetolaw05_StuffNext.l0
      repeat' first
      | (with_reducible exact ih0 _ _ _ _)
      | (with_reducible exact magnetolaw05_awake.mono _)
      | (with_reducible exact stuff_Next.mono _ _)
      | (with_reducible exact LeO.refl _)
      | (with_reducible exact LeO.none _)
      | (with_reducible refine LeO.ite ?_ ?_)
      | (with_reducible refine LeO.bind ?_ (fun _ => ?_))
      | exact ih0 _ _ _ _
      | exact magnetolaw05_awake.mono _
      | exact stuff_Next.mono _ _
      | exact LeO.none _
      | refine LeO.ite ?_ ?_
      | refine LeO.bind ?_ (fun _ => ?_)
theorem magnetolaw05_StuffNext.mono : ∀ a0 k, LeO (magnetolaw05_StuffNext.f k a0) (magnetolaw05_StuffNext.f (k + 1) a0) := by
  intro a0 k
  have ih0 := magnetolaw05_StuffNext.mono_l k
  unfold magnetolaw05_StuffNext.f
  repeat' first
      | (with_reducible exact ih0 _ _ _ _)
      | (with_reducible exact magnetolaw05_awake.mono _)
      | (with_reducible exact stuff_Next.mono _ _)
      | (with_reducible exact LeO.refl _)
      | (with_reducible exact LeO.none _)
      | (with_reducible refine LeO.ite ?_ ?_)
      | (with_reducible refine LeO.bind ?_ (fun _ => ?_))
      | exact ih0 _ _ _ _
      | exact magnetolaw05_awake.mono _
      | exact stuff_Next.mono _ _
      | exact LeO.none _
      | refine LeO.ite ?_ ?_
      | refine LeO.bind ?_ (fun _ => ?_)
set_option maxHeartbeats 8000000 in
set_option maxRecDepth 100000 in
theorem magnetolaw05_StuffNext.calls (k : Nat) (A0 : Option Addr) (c0 : Nat) (l0 : List Int) (r : Bool) (w : World) (hr0 : Kd.C (Kd.int .i64) w A0 l0.length l0) (hc0 : l0.length ≤ c0) (h : magnetolaw05_StuffNext.f k l0 = some r) :
    Calls Try.prog 20 #[.slice A0 l0.length c0] w fun e w' => e = .returned (.bool r) ∧ Below w.heap.size w w' := by
  have HR0 := Aside0.mk hr0
  have HC0 := Aside0.mk hc0
  clear hr0 hc0
  have HB := Aside0.mk (Below.refl w.heap.size w)
  have H : (if (l0.length : Int) > 300 then ((magnetolaw05_awake.f k).bind fun t830 => (some t830)) else ((bits_Check.f l0).bind fun t831 => (if t831 ≥ 0 then ((stuff_Next.f k l0).bind fun bt832 => (if bt832.1 = true then (none) else (if bt832.2 = 0 then ((magnetolaw05_awake.f k).bind fun t834 => (some t834)) else (none)))) else ((stuff_Add.f l0).bind fun t835 => (magnetolaw05_StuffNext.l0 k l0 t835 0 0))))) = some r := h
  clear h
  by_cases c2 : (l0.length : Int) > 300
  · rw [if_pos c2] at H
    have c2b0 : decide (300 < (l0.length : Int)) = true := decide_eq_true c2
    have c2b1 : decide (300 < l0.length) = true := decide_eq_true (by omega)
    clear c2
    replace H := Option.bind_eq_some_iff.mp H
    obtain ⟨t830, A30, H⟩ := H
    replace H : (some t830) = some r := H
    have A3 := Aside0.mk A30
    clear A30
    obtain rfl := Option.some.inj H
    go_enter Try.func20, Try.ntmps20
    go_wp2_with (first | (go_at_call 45; (with_reducible refine (magnetolaw05_awake.calls k  t830 _ A3.out).mono ?_); rintro e w4 ⟨rfl, hb⟩; have n0_ := Aside0.mk (below_step (by repeat (first | (with_reducible first | exact HB.out | apply below_alloc | apply pw_below_drewN | apply below_drew1) | exact HB.out)) hb); clear HB; have HB := n0_; clear n0_; (try clear hb); (try clear hb2); (try clear hk); (try clear hi)))
    repeat (go_quiet (first | (go_at_call 45; (with_reducible refine (magnetolaw05_awake.calls k  t830 _ A3.out).mono ?_); rintro e w4 ⟨rfl, hb⟩; have n0_ := Aside0.mk (below_step (by repeat (first | (with_reducible first | exact HB.out | apply below_alloc | apply pw_below_drewN | apply below_drew1) | exact HB.out)) hb); clear HB; have HB := n0_; clear n0_; (try clear hb); (try clear hb2); (try clear hk); (try clear hi))); try go_wp2_with (first | (go_at_call 45; (with_reducible refine (magnetolaw05_awake.calls k  t830 _ A3.out).mono ?_); rintro e w4 ⟨rfl, hb⟩; have n0_ := Aside0.mk (below_step (by repeat (first | (with_reducible first | exact HB.out | apply below_alloc | apply pw_below_drewN | apply below_drew1) | exact HB.out)) hb); clear HB; have HB := n0_; clear n0_; (try clear hb); (try clear hb2); (try clear hk); (try clear hi))))
    go_ret
    exact ⟨by first | rfl | (simp [errW_none, errW_some] <;> rfl) | (simp [*, errW_none, errW_some] <;> rfl), by repeat (first | (with_reducible first | exact HB.out | apply below_alloc | apply pw_below_drewN | apply below_drew1) | exact HB.out)⟩
  · rw [if_neg c2] at H
    have c2b0 : decide (300 < (l0.length : Int)) = false := decide_eq_false c2
    have c2b1 : decide (300 < l0.length) = false := decide_eq_false (by omega)
    clear c2
    replace H := Option.bind_eq_some_iff.mp H
    obtain ⟨t831, A50, H⟩ := H
    replace H : (if t831 ≥ 0 then ((stuff_Next.f k l0).bind fun bt832 => (if bt832.1 = true then (none) else (if bt832.2 = 0 then ((magnetolaw05_awake.f k).bind fun t834 => (some t834)) else (none)))) else ((stuff_Add.f l0).bind fun t835 => (magnetolaw05_StuffNext.l0 k l0 t835 0 0))) = some r := H
    have A5 := Aside0.mk A50
    clear A50
    by_cases c6 : t831 ≥ 0
    · rw [if_pos c6] at H
      have c6b0 : decide (0 ≤ t831) = true := decide_eq_true c6
      clear c6
      replace H := Option.bind_eq_some_iff.mp H
      obtain ⟨⟨t832, t833⟩, A70, H⟩ := H
      replace H : (if t832 = true then (none) else (if t833 = 0 then ((magnetolaw05_awake.f k).bind fun t834 => (some t834)) else (none))) = some r := H
      have A7 := Aside0.mk A70
      clear A70
      by_cases c8 : t832 = true
      · subst c8
        have H1 : (none) = some r := by rw [if_pos rfl] at H; exact H
        clear H
        have H := H1
        clear H1
        exact absurd H (by simp)
      · replace c8 := Bool.eq_false_iff.mpr c8
        subst c8
        have H1 : (if t833 = 0 then ((magnetolaw05_awake.f k).bind fun t834 => (some t834)) else (none)) = some r := by rw [if_neg (show ¬ (false = true) by decide)] at H; exact H
        clear H
        have H := H1
        clear H1
        by_cases c9 : t833 = 0
        · rw [if_pos c9] at H
          have c9b0 : (t833 == 0) = true := beq_iff_eq.mpr c9
          have c9b1 : (t833 != 0) = false := bne_eq_false_iff_eq.mpr c9
          clear c9
          replace H := Option.bind_eq_some_iff.mp H
          obtain ⟨t834, A100, H⟩ := H
          replace H : (some t834) = some r := H
          have A10 := Aside0.mk A100
          clear A100
          obtain rfl := Option.some.inj H
          go_enter Try.func20, Try.ntmps20
          go_wp2_with (first | (go_at_call 24; (with_reducible refine (bits_Check.calls _ _ l0 t831 _ ?side1 ?side2 A5.out).mono ?_); (case side1 => repeat (first | exact HR0.out | (with_reducible refine Kd.C_alloc ?_ _) | (with_reducible refine Kd.C_drewN ?_ _) | (with_reducible refine Kd.C_drew ?_))); (case side2 => exact HC0.out); rintro e w' ⟨rfl, ⟨nd, rfl⟩⟩; (try first | exact ⟨rfl, _, World.drewN_drewN _ _ _⟩ | exact ⟨rfl, _, Eq.trans (World.drewN_drewN _ _ _) (congrArg (World.drewN _) (Nat.add_assoc _ _ _))⟩)) | (go_at_call 53; (with_reducible refine (stuff_Next.calls k _ _ l0 false t833 _ ?side1 ?side2 A7.out).mono ?_); (case side1 => repeat (first | exact HR0.out | (with_reducible refine Kd.C_alloc ?_ _) | (with_reducible refine Kd.C_drewN ?_ _) | (with_reducible refine Kd.C_drew ?_))); (case side2 => exact HC0.out); rintro e w11 ⟨rfl, hb⟩; have n0_ := Aside0.mk (below_step (by repeat (first | (with_reducible first | exact HB.out | apply below_alloc | apply pw_below_drewN | apply below_drew1) | exact HB.out)) hb); clear HB; have HB := n0_; clear n0_; (try clear hb); (try clear hb2); (try clear hk); (try clear hi)) | (go_at_call 45; (with_reducible refine (magnetolaw05_awake.calls k  t834 _ A10.out).mono ?_); rintro e w12 ⟨rfl, hb⟩; have n0_ := Aside0.mk (below_step (by repeat (first | (with_reducible first | exact HB.out | apply below_alloc | apply pw_below_drewN | apply below_drew1) | exact HB.out)) hb); clear HB; have HB := n0_; clear n0_; (try clear hb); (try clear hb2); (try clear hk); (try clear hi)))
          repeat (go_quiet (first | (go_at_call 24; (with_reducible refine (bits_Check.calls _ _ l0 t831 _ ?side1 ?side2 A5.out).mono ?_); (case side1 => repeat (first | exact HR0.out | (with_reducible refine Kd.C_alloc ?_ _) | (with_reducible refine Kd.C_drewN ?_ _) | (with_reducible refine Kd.C_drew ?_))); (case side2 => exact HC0.out); rintro e w' ⟨rfl, ⟨nd, rfl⟩⟩; (try first | exact ⟨rfl, _, World.drewN_drewN _ _ _⟩ | exact ⟨rfl, _, Eq.trans (World.drewN_drewN _ _ _) (congrArg (World.drewN _) (Nat.add_assoc _ _ _))⟩)) | (go_at_call 53; (with_reducible refine (stuff_Next.calls k _ _ l0 false t833 _ ?side1 ?side2 A7.out).mono ?_); (case side1 => repeat (first | exact HR0.out | (with_reducible refine Kd.C_alloc ?_ _) | (with_reducible refine Kd.C_drewN ?_ _) | (with_reducible refine Kd.C_drew ?_))); (case side2 => exact HC0.out); rintro e w11 ⟨rfl, hb⟩; have n0_ := Aside0.mk (below_step (by repeat (first | (with_reducible first | exact HB.out | apply below_alloc | apply pw_below_drewN | apply below_drew1) | exact HB.out)) hb); clear HB; have HB := n0_; clear n0_; (try clear hb); (try clear hb2); (try clear hk); (try clear hi)) | (go_at_call 45; (with_reducible refine (magnetolaw05_awake.calls k  t834 _ A10.out).mono ?_); rintro e w12 ⟨rfl, hb⟩; have n0_ := Aside0.mk (below_step (by repeat (first | (with_reducible first | exact HB.out | apply below_alloc | apply pw_below_drewN | apply below_drew1) | exact HB.out)) hb); clear HB; have HB := n0_; clear n0_; (try clear hb); (try clear hb2); (try clear hk); (try clear hi))); try go_wp2_with (first | (go_at_call 24; (with_reducible refine (bits_Check.calls _ _ l0 t831 _ ?side1 ?side2 A5.out).mono ?_); (case side1 => repeat (first | exact HR0.out | (with_reducible refine Kd.C_alloc ?_ _) | (with_reducible refine Kd.C_drewN ?_ _) | (with_reducible refine Kd.C_drew ?_))); (case side2 => exact HC0.out); rintro e w' ⟨rfl, ⟨nd, rfl⟩⟩; (try first | exact ⟨rfl, _, World.drewN_drewN _ _ _⟩ | exact ⟨rfl, _, Eq.trans (World.drewN_drewN _ _ _) (congrArg (World.drewN _) (Nat.add_assoc _ _ _))⟩)) | (go_at_call 53; (with_reducible refine (stuff_Next.calls k _ _ l0 false t833 _ ?side1 ?side2 A7.out).mono ?_); (case side1 => repeat (first | exact HR0.out | (with_reducible refine Kd.C_alloc ?_ _) | (with_reducible refine Kd.C_drewN ?_ _) | (with_reducible refine Kd.C_drew ?_))); (case side2 => exact HC0.out); rintro e w11 ⟨rfl, hb⟩; have n0_ := Aside0.mk (below_step (by repeat (first | (with_reducible first | exact HB.out | apply below_alloc | apply pw_below_drewN | apply below_drew1) | exact HB.out)) hb); clear HB; have HB := n0_; clear n0_; (try clear hb); (try clear hb2); (try clear hk); (try clear hi)) | (go_at_call 45; (with_reducible refine (magnetolaw05_awake.calls k  t834 _ A10.out).mono ?_); rintro e w12 ⟨rfl, hb⟩; have n0_ := Aside0.mk (below_step (by repeat (first | (with_reducible first | exact HB.out | apply below_alloc | apply pw_below_drewN | apply below_drew1) | exact HB.out)) hb); clear HB; have HB := n0_; clear n0_; (try clear hb); (try clear hb2); (try clear hk); (try clear hi))))
          go_ret
          exact ⟨by first | rfl | (simp [errW_none, errW_some] <;> rfl) | (simp [*, errW_none, errW_some] <;> rfl), by repeat (first | (with_reducible first | exact HB.out | apply below_alloc | apply pw_below_drewN | apply below_drew1) | exact HB.out)⟩
        · rw [if_neg c9] at H
          exact absurd H (by simp)
    · rw [if_neg c6] at H
      have c6b0 : decide (0 ≤ t831) = false := decide_eq_false c6
      clear c6
      replace H := Option.bind_eq_some_iff.mp H
      obtain ⟨t835, A130, H⟩ := H
      replace H : (magnetolaw05_StuffNext.l0 k l0 t835 0 0) = some r := H
      have A13 := Aside0.mk A130
      clear A130
      have H' := Aside0.mk H
      clear H
      go_enter Try.func20, Try.ntmps20
      go_wp2_with (first | (go_at_call 24; (with_reducible refine (bits_Check.calls _ _ l0 t831 _ ?side1 ?side2 A5.out).mono ?_); (case side1 => repeat (first | exact HR0.out | (with_reducible refine Kd.C_alloc ?_ _) | (with_reducible refine Kd.C_drewN ?_ _) | (with_reducible refine Kd.C_drew ?_))); (case side2 => exact HC0.out); rintro e w' ⟨rfl, ⟨nd, rfl⟩⟩; (try first | exact ⟨rfl, _, World.drewN_drewN _ _ _⟩ | exact ⟨rfl, _, Eq.trans (World.drewN_drewN _ _ _) (congrArg (World.drewN _) (Nat.add_assoc _ _ _))⟩)) | (go_at_call 48; (with_reducible refine (stuff_Add.calls _ _ l0 t835 _ ?side1 ?side2 A13.out).mono ?_); (case side1 => repeat (first | exact HR0.out | (with_reducible refine Kd.C_alloc ?_ _) | (with_reducible refine Kd.C_drewN ?_ _) | (with_reducible refine Kd.C_drew ?_))); (case side2 => exact HC0.out); rintro e w14 ⟨v836, rfl, ho0, hb⟩; have n0_ := Aside0.mk (Kd.R_lower ho0 (below_size (by repeat (first | (with_reducible first | exact HB.out | apply below_alloc | apply pw_below_drewN | apply below_drew1) | exact HB.out)))); have n1_ := Aside0.mk (below_step (by repeat (first | (with_reducible first | exact HB.out | apply below_alloc | apply pw_below_drewN | apply below_drew1) | exact HB.out)) hb); clear HB; have HO837 := n0_; have HB := n1_; clear n0_ n1_; (try clear hb); (try clear hb2); (try clear hk); (try clear hi); (try clear ho0)))
      repeat (go_quiet (first | (go_at_call 24; (with_reducible refine (bits_Check.calls _ _ l0 t831 _ ?side1 ?side2 A5.out).mono ?_); (case side1 => repeat (first | exact HR0.out | (with_reducible refine Kd.C_alloc ?_ _) | (with_reducible refine Kd.C_drewN ?_ _) | (with_reducible refine Kd.C_drew ?_))); (case side2 => exact HC0.out); rintro e w' ⟨rfl, ⟨nd, rfl⟩⟩; (try first | exact ⟨rfl, _, World.drewN_drewN _ _ _⟩ | exact ⟨rfl, _, Eq.trans (World.drewN_drewN _ _ _) (congrArg (World.drewN _) (Nat.add_assoc _ _ _))⟩)) | (go_at_call 48; (with_reducible refine (stuff_Add.calls _ _ l0 t835 _ ?side1 ?side2 A13.out).mono ?_); (case side1 => repeat (first | exact HR0.out | (with_reducible refine Kd.C_alloc ?_ _) | (with_reducible refine Kd.C_drewN ?_ _) | (with_reducible refine Kd.C_drew ?_))); (case side2 => exact HC0.out); rintro e w14 ⟨v836, rfl, ho0, hb⟩; have n0_ := Aside0.mk (Kd.R_lower ho0 (below_size (by repeat (first | (with_reducible first | exact HB.out | apply below_alloc | apply pw_below_drewN | apply below_drew1) | exact HB.out)))); have n1_ := Aside0.mk (below_step (by repeat (first | (with_reducible first | exact HB.out | apply below_alloc | apply pw_below_drewN | apply below_drew1) | exact HB.out)) hb); clear HB; have HO837 := n0_; have HB := n1_; clear n0_ n1_; (try clear hb); (try clear hb2); (try clear hk); (try clear hi); (try clear ho0))); try go_wp2_with (first | (go_at_call 24; (with_reducible refine (bits_Check.calls _ _ l0 t831 _ ?side1 ?side2 A5.out).mono ?_); (case side1 => repeat (first | exact HR0.out | (with_reducible refine Kd.C_alloc ?_ _) | (with_reducible refine Kd.C_drewN ?_ _) | (with_reducible refine Kd.C_drew ?_))); (case side2 => exact HC0.out); rintro e w' ⟨rfl, ⟨nd, rfl⟩⟩; (try first | exact ⟨rfl, _, World.drewN_drewN _ _ _⟩ | exact ⟨rfl, _, Eq.trans (World.drewN_drewN _ _ _) (congrArg (World.drewN _) (Nat.add_assoc _ _ _))⟩)) | (go_at_call 48; (with_reducible refine (stuff_Add.calls _ _ l0 t835 _ ?side1 ?side2 A13.out).mono ?_); (case side1 => repeat (first | exact HR0.out | (with_reducible refine Kd.C_alloc ?_ _) | (with_reducible refine Kd.C_drewN ?_ _) | (with_reducible refine Kd.C_drew ?_))); (case side2 => exact HC0.out); rintro e w14 ⟨v836, rfl, ho0, hb⟩; have n0_ := Aside0.mk (Kd.R_lower ho0 (below_size (by repeat (first | (with_reducible first | exact HB.out | apply below_alloc | apply pw_below_drewN | apply below_drew1) | exact HB.out)))); have n1_ := Aside0.mk (below_step (by repeat (first | (with_reducible first | exact HB.out | apply below_alloc | apply pw_below_drewN | apply below_drew1) | exact HB.out)) hb); clear HB; have HO837 := n0_; have HB := n1_; clear n0_ n1_; (try clear hb); (try clear hb2); (try clear hk); (try clear hi); (try clear ho0))))
      go_loopg [6, 7] k (fun kq v6 v7 w' => ∃ (x6_1 : Int) (x7_1 : Int), v6 = .int .i64 x6_1 ∧ v7 = .int .i64 x7_1 ∧ Aside0 (magnetolaw05_StuffNext.l0 kq l0 t835 x6_1 x7_1 = some r) ∧ Aside0 (kq ≤ k) ∧ Aside0 (Kd.R (Kd.int .i64) 3 w' w.heap.size (fun _ => True) v836 t835) ∧ Aside0 (Below w.heap.size w w'))
      case atStart => exact ⟨(0), (0), (by first | rfl | (simp; done) | (simp [*]; done)), (by first | rfl | (simp; done) | (simp [*]; done)), H', ⟨Nat.le_refl _⟩, ⟨by (with_reducible repeat (first | apply Kd.R_alloc | apply Kd.R_drewN | apply Kd.R_drew)); exact HO837.out⟩, ⟨by repeat (first | (with_reducible first | exact HB.out | apply below_alloc | apply pw_below_drewN | apply below_drew1) | exact HB.out)⟩⟩
      case round =>
        clear H'
        try clear c2
        try clear c2b0
        try clear c2b1
        try clear p2
        try clear c6
        try clear c6b0
        try clear c8
        try clear c9
        try clear c9b0
        try clear c9b1
        obtain ⟨x6_1, x7_1, rfl, rfl, HA, HK1, HO_5, HB⟩ := hrel
        cases gk with
        | zero => exact absurd HA.out (by simp [magnetolaw05_StuffNext.l0])
        | succ k1 =>
          have H := HA.out
          clear HA
          simp only [magnetolaw05_StuffNext.l0] at H
          by_cases c15 : x7_1 < (t835.length : Int)
          · rw [if_pos c15] at H
            have c15b0 : decide (x7_1 < (t835.length : Int)) = true := decide_eq_true c15
            clear c15
            by_cases c16 : 0 ≤ x7_1
            · rw [if_pos c16] at H
              have c16b0 := eq_true c16
              have c16b1 : decide (0 ≤ x7_1) = true := decide_eq_true c16
              clear c16
              by_cases c17 : x7_1 ≤ (t835.length : Int)
              · rw [if_pos c17] at H
                have c17b0 := eq_true c17
                have c17b1 : decide (x7_1 ≤ (t835.length : Int)) = true := decide_eq_true c17
                clear c17
                obtain ⟨y841, hy841⟩ : ∃ y_ : List Int, y_ = (t835.take (x7_1 : Int).toNat) := ⟨_, rfl⟩
                replace H : ((stuff_Next.f k1 y841).bind fun bt845 => (if bt845.1 = true then (if (rd t835 x7_1) = bt845.2 then (magnetolaw05_StuffNext.l0 k1 l0 t835 x6_1 (wrap64 (x7_1 + 1))) else (none)) else (if x6_1 ≥ (l0.length : Int) then (none) else (if 0 ≤ x6_1 then (if x6_1 < (l0.length : Int) then (if (rd t835 x7_1) = (rd l0 x6_1) then (magnetolaw05_StuffNext.l0 k1 l0 t835 (wrap64 (x6_1 + 1)) (wrap64 (x7_1 + 1))) else (none)) else (none)) else (none))))) = some r := by first | (rw [hy841]; with_reducible exact H) | (have H2_ := (Option.bind_some _ _).symm.trans H; rw [hy841]; with_reducible exact H2_) | (have H2_ := (Option.bind_some _ _).symm.trans H; with_reducible exact H2_) | with_reducible exact H | (rw [hy841]; exact H) | exact H
                have Ny841 := Aside0.mk hy841
                clear hy841
                replace H := Option.bind_eq_some_iff.mp H
                obtain ⟨⟨t845, t846⟩, A180, H⟩ := H
                replace H : (if t845 = true then (if (rd t835 x7_1) = t846 then (magnetolaw05_StuffNext.l0 k1 l0 t835 x6_1 (wrap64 (x7_1 + 1))) else (none)) else (if x6_1 ≥ (l0.length : Int) then (none) else (if 0 ≤ x6_1 then (if x6_1 < (l0.length : Int) then (if (rd t835 x7_1) = (rd l0 x6_1) then (magnetolaw05_StuffNext.l0 k1 l0 t835 (wrap64 (x6_1 + 1)) (wrap64 (x7_1 + 1))) else (none)) else (none)) else (none)))) = some r := H
                have A18 := Aside0.mk A180
                clear A180
                by_cases c19 : t845 = true
                · subst c19
                  have H1 : (if (rd t835 x7_1) = t846 then (magnetolaw05_StuffNext.l0 k1 l0 t835 x6_1 (wrap64 (x7_1 + 1))) else (none)) = some r := by rw [if_pos rfl] at H; exact H
                  clear H
                  have H := H1
                  clear H1
                  by_cases c20 : (rd t835 x7_1) = t846
                  · rw [if_pos c20] at H
                    have c20b0 : ((rd t835 x7_1) == t846) = true := beq_iff_eq.mpr c20
                    have c20b1 : ((rd t835 x7_1) != t846) = false := bne_eq_false_iff_eq.mpr c20
                    clear c20
                    have H' := Aside0.mk H
                    clear H
                    obtain ⟨Ao21, co21, eo21⟩ := Kd.R_slice HO_5.out
                    subst eo21
                    have q22 : (x7_1 : Int) ≤ ((t835.length : Int) : Int) := of_decide_eq_true (by first | (with_reducible assumption) | assumption)
                    obtain ⟨i022, hi022, _, hsz22, _⟩ := info_parts info3
                    have hroom22 : t835.length ≤ co21 := (Kd.R_reads' HO_5.out).2.1
                    have hC22 : Kd.C (Kd.int .i64) _ Ao21 t835.length t835 := (Kd.R_reads' HO_5.out).2.2
                    have hcut22 := cut_to (P := Try.prog) 22 3 .i64 Try.underlying22 hi022 Ao21 t835.length co21 x7_1 (of_decide_eq_true (by first | (with_reducible assumption) | assumption)) q22 hroom22
                    have hr22 := Kd.C_take (m := (x7_1 : Int).toNat) hC22 (by omega)
                    have hy22 : y841.length = (x7_1 : Int).toNat := (by rw [Ny841.out, List.length_take]; omega)
                    rw [← Ny841.out] at hr22
                    rw [← hy22] at hcut22
                    have HR844 := Aside0.mk hr22
                    have HC844 := Aside0.mk (show y841.length ≤ co21 from by omega)
                    clear hr22 hC22 hroom22 hi022 hsz22
                    have KY22 := Aside0.mk hy22
                    clear hy22
                    have KL22 := Aside0.mk (show (x7_1 : Int).toNat ≤ t835.length from by omega)
                    replace q22 := eq_true q22
                    go_wp2_with (first | (go_at_call 53; (with_reducible refine (stuff_Next.calls k1 _ _ y841 true t846 _ ?side1 ?side2 A18.out).mono ?_); (case side1 => repeat (first | exact (by repeat (first | (with_reducible exact HR844.out) | (with_reducible refine Kd.C_alloc ?_ _) | (with_reducible refine Kd.C_drewN ?_ _) | (with_reducible refine Kd.C_drew ?_) | exact HR844.out)) | (with_reducible refine Kd.C_alloc ?_ _) | (with_reducible refine Kd.C_drewN ?_ _) | (with_reducible refine Kd.C_drew ?_))); (case side2 => exact HC844.out); rintro e w23 ⟨rfl, hb⟩; have n0_ := Aside0.mk (Kd.R_below (by (with_reducible repeat (first | apply Kd.R_alloc | apply Kd.R_drewN | apply Kd.R_drew)); exact HO_5.out) hb); have n1_ := Aside0.mk (Kd.C_below (by repeat (first | (with_reducible exact HR844.out) | (with_reducible refine Kd.C_alloc ?_ _) | (with_reducible refine Kd.C_drewN ?_ _) | (with_reducible refine Kd.C_drew ?_) | exact HR844.out)) hb); have n2_ := Aside0.mk (below_step (by repeat (first | (with_reducible first | exact HB.out | apply below_alloc | apply pw_below_drewN | apply below_drew1) | exact HB.out)) hb); clear HO_5; clear HR844; clear HB; have HO_5 := n0_; have HR844 := n1_; have HB := n2_; clear n0_ n1_ n2_; (try clear hb); (try clear hb2); (try clear hk); (try clear hi); have p847 : 0 ≤ (x7_1 : Int) := of_decide_eq_true (by first | (with_reducible assumption) | assumption); have q847 : x7_1 < (t835.length : Int) := of_decide_eq_true (by first | (with_reducible assumption) | assumption); obtain ⟨ad847, e847, hx847_0⟩ := Kd.at_int (Kd.R_reads' HO_5.out).2.2 x7_1 p847 q847; cases e847; replace p847 := eq_true p847; replace q847 := eq_true q847))
                    repeat (go_quiet (first | (go_at_call 53; (with_reducible refine (stuff_Next.calls k1 _ _ y841 true t846 _ ?side1 ?side2 A18.out).mono ?_); (case side1 => repeat (first | exact (by repeat (first | (with_reducible exact HR844.out) | (with_reducible refine Kd.C_alloc ?_ _) | (with_reducible refine Kd.C_drewN ?_ _) | (with_reducible refine Kd.C_drew ?_) | exact HR844.out)) | (with_reducible refine Kd.C_alloc ?_ _) | (with_reducible refine Kd.C_drewN ?_ _) | (with_reducible refine Kd.C_drew ?_))); (case side2 => exact HC844.out); rintro e w23 ⟨rfl, hb⟩; have n0_ := Aside0.mk (Kd.R_below (by (with_reducible repeat (first | apply Kd.R_alloc | apply Kd.R_drewN | apply Kd.R_drew)); exact HO_5.out) hb); have n1_ := Aside0.mk (Kd.C_below (by repeat (first | (with_reducible exact HR844.out) | (with_reducible refine Kd.C_alloc ?_ _) | (with_reducible refine Kd.C_drewN ?_ _) | (with_reducible refine Kd.C_drew ?_) | exact HR844.out)) hb); have n2_ := Aside0.mk (below_step (by repeat (first | (with_reducible first | exact HB.out | apply below_alloc | apply pw_below_drewN | apply below_drew1) | exact HB.out)) hb); clear HO_5; clear HR844; clear HB; have HO_5 := n0_; have HR844 := n1_; have HB := n2_; clear n0_ n1_ n2_; (try clear hb); (try clear hb2); (try clear hk); (try clear hi); have p847 : 0 ≤ (x7_1 : Int) := of_decide_eq_true (by first | (with_reducible assumption) | assumption); have q847 : x7_1 < (t835.length : Int) := of_decide_eq_true (by first | (with_reducible assumption) | assumption); obtain ⟨ad847, e847, hx847_0⟩ := Kd.at_int (Kd.R_reads' HO_5.out).2.2 x7_1 p847 q847; cases e847; replace p847 := eq_true p847; replace q847 := eq_true q847)); try go_wp2_with (first | (go_at_call 53; (with_reducible refine (stuff_Next.calls k1 _ _ y841 true t846 _ ?side1 ?side2 A18.out).mono ?_); (case side1 => repeat (first | exact (by repeat (first | (with_reducible exact HR844.out) | (with_reducible refine Kd.C_alloc ?_ _) | (with_reducible refine Kd.C_drewN ?_ _) | (with_reducible refine Kd.C_drew ?_) | exact HR844.out)) | (with_reducible refine Kd.C_alloc ?_ _) | (with_reducible refine Kd.C_drewN ?_ _) | (with_reducible refine Kd.C_drew ?_))); (case side2 => exact HC844.out); rintro e w23 ⟨rfl, hb⟩; have n0_ := Aside0.mk (Kd.R_below (by (with_reducible repeat (first | apply Kd.R_alloc | apply Kd.R_drewN | apply Kd.R_drew)); exact HO_5.out) hb); have n1_ := Aside0.mk (Kd.C_below (by repeat (first | (with_reducible exact HR844.out) | (with_reducible refine Kd.C_alloc ?_ _) | (with_reducible refine Kd.C_drewN ?_ _) | (with_reducible refine Kd.C_drew ?_) | exact HR844.out)) hb); have n2_ := Aside0.mk (below_step (by repeat (first | (with_reducible first | exact HB.out | apply below_alloc | apply pw_below_drewN | apply below_drew1) | exact HB.out)) hb); clear HO_5; clear HR844; clear HB; have HO_5 := n0_; have HR844 := n1_; have HB := n2_; clear n0_ n1_ n2_; (try clear hb); (try clear hb2); (try clear hk); (try clear hi); have p847 : 0 ≤ (x7_1 : Int) := of_decide_eq_true (by first | (with_reducible assumption) | assumption); have q847 : x7_1 < (t835.length : Int) := of_decide_eq_true (by first | (with_reducible assumption) | assumption); obtain ⟨ad847, e847, hx847_0⟩ := Kd.at_int (Kd.R_reads' HO_5.out).2.2 x7_1 p847 q847; cases e847; replace p847 := eq_true p847; replace q847 := eq_true q847)))
                    go_roundg k1
                    case measure => have := HK1.out; omega
                    case rel => exact ⟨(x6_1), (wrap64 (x7_1 + 1)), (by first | rfl | (simp; done) | (simp [*]; done)), (by first | rfl | (simp; done) | (simp [*]; done)), H', ⟨by have := HK1.out; omega⟩, ⟨by (with_reducible repeat (first | apply Kd.R_alloc | apply Kd.R_drewN | apply Kd.R_drew)); exact HO_5.out⟩, ⟨by repeat (first | (with_reducible first | exact HB.out | apply below_alloc | apply pw_below_drewN | apply below_drew1) | exact HB.out)⟩⟩
                  · rw [if_neg c20] at H
                    exact absurd H (by simp)
                · replace c19 := Bool.eq_false_iff.mpr c19
                  subst c19
                  have H1 : (if x6_1 ≥ (l0.length : Int) then (none) else (if 0 ≤ x6_1 then (if x6_1 < (l0.length : Int) then (if (rd t835 x7_1) = (rd l0 x6_1) then (magnetolaw05_StuffNext.l0 k1 l0 t835 (wrap64 (x6_1 + 1)) (wrap64 (x7_1 + 1))) else (none)) else (none)) else (none))) = some r := by rw [if_neg (show ¬ (false = true) by decide)] at H; exact H
                  clear H
                  have H := H1
                  clear H1
                  by_cases c24 : x6_1 ≥ (l0.length : Int)
                  · rw [if_pos c24] at H
                    exact absurd H (by simp)
                  · rw [if_neg c24] at H
                    have c24b0 : decide ((l0.length : Int) ≤ x6_1) = false := decide_eq_false c24
                    clear c24
                    by_cases c25 : 0 ≤ x6_1
                    · rw [if_pos c25] at H
                      have c25b0 : decide (0 ≤ x6_1) = true := decide_eq_true c25
                      clear c25
                      by_cases c26 : x6_1 < (l0.length : Int)
                      · rw [if_pos c26] at H
                        have c26b0 : decide (x6_1 < (l0.length : Int)) = true := decide_eq_true c26
                        clear c26
                        by_cases c27 : (rd t835 x7_1) = (rd l0 x6_1)
                        · rw [if_pos c27] at H
                          have c27b0 : ((rd t835 x7_1) == (rd l0 x6_1)) = true := beq_iff_eq.mpr c27
                          have c27b1 : ((rd t835 x7_1) != (rd l0 x6_1)) = false := bne_eq_false_iff_eq.mpr c27
                          clear c27
                          have H' := Aside0.mk H
                          clear H
                          obtain ⟨Ao28, co28, eo28⟩ := Kd.R_slice HO_5.out
                          subst eo28
                          have q29 : (x7_1 : Int) ≤ ((t835.length : Int) : Int) := of_decide_eq_true (by first | (with_reducible assumption) | assumption)
                          obtain ⟨i029, hi029, _, hsz29, _⟩ := info_parts info3
                          have hroom29 : t835.length ≤ co28 := (Kd.R_reads' HO_5.out).2.1
                          have hC29 : Kd.C (Kd.int .i64) _ Ao28 t835.length t835 := (Kd.R_reads' HO_5.out).2.2
                          have hcut29 := cut_to (P := Try.prog) 22 3 .i64 Try.underlying22 hi029 Ao28 t835.length co28 x7_1 (of_decide_eq_true (by first | (with_reducible assumption) | assumption)) q29 hroom29
                          have hr29 := Kd.C_take (m := (x7_1 : Int).toNat) hC29 (by omega)
                          have hy29 : y841.length = (x7_1 : Int).toNat := (by rw [Ny841.out, List.length_take]; omega)
                          rw [← Ny841.out] at hr29
                          rw [← hy29] at hcut29
                          have HR844 := Aside0.mk hr29
                          have HC844 := Aside0.mk (show y841.length ≤ co28 from by omega)
                          clear hr29 hC29 hroom29 hi029 hsz29
                          have KY29 := Aside0.mk hy29
                          clear hy29
                          have KL29 := Aside0.mk (show (x7_1 : Int).toNat ≤ t835.length from by omega)
                          replace q29 := eq_true q29
                          go_wp2_with (first | (go_at_call 53; (with_reducible refine (stuff_Next.calls k1 _ _ y841 false t846 _ ?side1 ?side2 A18.out).mono ?_); (case side1 => repeat (first | exact (by repeat (first | (with_reducible exact HR844.out) | (with_reducible refine Kd.C_alloc ?_ _) | (with_reducible refine Kd.C_drewN ?_ _) | (with_reducible refine Kd.C_drew ?_) | exact HR844.out)) | (with_reducible refine Kd.C_alloc ?_ _) | (with_reducible refine Kd.C_drewN ?_ _) | (with_reducible refine Kd.C_drew ?_))); (case side2 => exact HC844.out); rintro e w30 ⟨rfl, hb⟩; have n0_ := Aside0.mk (Kd.R_below (by (with_reducible repeat (first | apply Kd.R_alloc | apply Kd.R_drewN | apply Kd.R_drew)); exact HO_5.out) hb); have n1_ := Aside0.mk (Kd.C_below (by repeat (first | (with_reducible exact HR844.out) | (with_reducible refine Kd.C_alloc ?_ _) | (with_reducible refine Kd.C_drewN ?_ _) | (with_reducible refine Kd.C_drew ?_) | exact HR844.out)) hb); have n2_ := Aside0.mk (below_step (by repeat (first | (with_reducible first | exact HB.out | apply below_alloc | apply pw_below_drewN | apply below_drew1) | exact HB.out)) hb); clear HO_5; clear HR844; clear HB; have HO_5 := n0_; have HR844 := n1_; have HB := n2_; clear n0_ n1_ n2_; (try clear hb); (try clear hb2); (try clear hk); (try clear hi); have p848 : 0 ≤ (x7_1 : Int) := of_decide_eq_true (by first | (with_reducible assumption) | assumption); have q848 : x7_1 < (t835.length : Int) := of_decide_eq_true (by first | (with_reducible assumption) | assumption); obtain ⟨ad848, e848, hx848_0⟩ := Kd.at_int (Kd.R_reads' HO_5.out).2.2 x7_1 p848 q848; cases e848; replace p848 := eq_true p848; replace q848 := eq_true q848; have p849 : 0 ≤ (x6_1 : Int) := of_decide_eq_true (by first | (with_reducible assumption) | assumption); have q849 : x6_1 < (l0.length : Int) := of_decide_eq_true (by first | (with_reducible assumption) | assumption); obtain ⟨ad849, e849, hx849_0⟩ := Kd.at_int HR0.out x6_1 p849 q849; cases e849; replace hx849_0 := (HB.out.cell (World.block_lt_of_cell? w _ hx849_0)).trans hx849_0; replace p849 := eq_true p849; replace q849 := eq_true q849))
                          repeat (go_quiet (first | (go_at_call 53; (with_reducible refine (stuff_Next.calls k1 _ _ y841 false t846 _ ?side1 ?side2 A18.out).mono ?_); (case side1 => repeat (first | exact (by repeat (first | (with_reducible exact HR844.out) | (with_reducible refine Kd.C_alloc ?_ _) | (with_reducible refine Kd.C_drewN ?_ _) | (with_reducible refine Kd.C_drew ?_) | exact HR844.out)) | (with_reducible refine Kd.C_alloc ?_ _) | (with_reducible refine Kd.C_drewN ?_ _) | (with_reducible refine Kd.C_drew ?_))); (case side2 => exact HC844.out); rintro e w30 ⟨rfl, hb⟩; have n0_ := Aside0.mk (Kd.R_below (by (with_reducible repeat (first | apply Kd.R_alloc | apply Kd.R_drewN | apply Kd.R_drew)); exact HO_5.out) hb); have n1_ := Aside0.mk (Kd.C_below (by repeat (first | (with_reducible exact HR844.out) | (with_reducible refine Kd.C_alloc ?_ _) | (with_reducible refine Kd.C_drewN ?_ _) | (with_reducible refine Kd.C_drew ?_) | exact HR844.out)) hb); have n2_ := Aside0.mk (below_step (by repeat (first | (with_reducible first | exact HB.out | apply below_alloc | apply pw_below_drewN | apply below_drew1) | exact HB.out)) hb); clear HO_5; clear HR844; clear HB; have HO_5 := n0_; have HR844 := n1_; have HB := n2_; clear n0_ n1_ n2_; (try clear hb); (try clear hb2); (try clear hk); (try clear hi); have p848 : 0 ≤ (x7_1 : Int) := of_decide_eq_true (by first | (with_reducible assumption) | assumption); have q848 : x7_1 < (t835.length : Int) := of_decide_eq_true (by first | (with_reducible assumption) | assumption); obtain ⟨ad848, e848, hx848_0⟩ := Kd.at_int (Kd.R_reads' HO_5.out).2.2 x7_1 p848 q848; cases e848; replace p848 := eq_true p848; replace q848 := eq_true q848; have p849 : 0 ≤ (x6_1 : Int) := of_decide_eq_true (by first | (with_reducible assumption) | assumption); have q849 : x6_1 < (l0.length : Int) := of_decide_eq_true (by first | (with_reducible assumption) | assumption); obtain ⟨ad849, e849, hx849_0⟩ := Kd.at_int HR0.out x6_1 p849 q849; cases e849; replace hx849_0 := (HB.out.cell (World.block_lt_of_cell? w _ hx849_0)).trans hx849_0; replace p849 := eq_true p849; replace q849 := eq_true q849)); try go_wp2_with (first | (go_at_call 53; (with_reducible refine (stuff_Next.calls k1 _ _ y841 false t846 _ ?side1 ?side2 A18.out).mono ?_); (case side1 => repeat (first | exact (by repeat (first | (with_reducible exact HR844.out) | (with_reducible refine Kd.C_alloc ?_ _) | (with_reducible refine Kd.C_drewN ?_ _) | (with_reducible refine Kd.C_drew ?_) | exact HR844.out)) | (with_reducible refine Kd.C_alloc ?_ _) | (with_reducible refine Kd.C_drewN ?_ _) | (with_reducible refine Kd.C_drew ?_))); (case side2 => exact HC844.out); rintro e w30 ⟨rfl, hb⟩; have n0_ := Aside0.mk (Kd.R_below (by (with_reducible repeat (first | apply Kd.R_alloc | apply Kd.R_drewN | apply Kd.R_drew)); exact HO_5.out) hb); have n1_ := Aside0.mk (Kd.C_below (by repeat (first | (with_reducible exact HR844.out) | (with_reducible refine Kd.C_alloc ?_ _) | (with_reducible refine Kd.C_drewN ?_ _) | (with_reducible refine Kd.C_drew ?_) | exact HR844.out)) hb); have n2_ := Aside0.mk (below_step (by repeat (first | (with_reducible first | exact HB.out | apply below_alloc | apply pw_below_drewN | apply below_drew1) | exact HB.out)) hb); clear HO_5; clear HR844; clear HB; have HO_5 := n0_; have HR844 := n1_; have HB := n2_; clear n0_ n1_ n2_; (try clear hb); (try clear hb2); (try clear hk); (try clear hi); have p848 : 0 ≤ (x7_1 : Int) := of_decide_eq_true (by first | (with_reducible assumption) | assumption); have q848 : x7_1 < (t835.length : Int) := of_decide_eq_true (by first | (with_reducible assumption) | assumption); obtain ⟨ad848, e848, hx848_0⟩ := Kd.at_int (Kd.R_reads' HO_5.out).2.2 x7_1 p848 q848; cases e848; replace p848 := eq_true p848; replace q848 := eq_true q848; have p849 : 0 ≤ (x6_1 : Int) := of_decide_eq_true (by first | (with_reducible assumption) | assumption); have q849 : x6_1 < (l0.length : Int) := of_decide_eq_true (by first | (with_reducible assumption) | assumption); obtain ⟨ad849, e849, hx849_0⟩ := Kd.at_int HR0.out x6_1 p849 q849; cases e849; replace hx849_0 := (HB.out.cell (World.block_lt_of_cell? w _ hx849_0)).trans hx849_0; replace p849 := eq_true p849; replace q849 := eq_true q849)))
                          go_roundg k1
                          case measure => have := HK1.out; omega
                          case rel => exact ⟨(wrap64 (x6_1 + 1)), (wrap64 (x7_1 + 1)), (by first | rfl | (simp; done) | (simp [*]; done)), (by first | rfl | (simp; done) | (simp [*]; done)), H', ⟨by have := HK1.out; omega⟩, ⟨by (with_reducible repeat (first | apply Kd.R_alloc | apply Kd.R_drewN | apply Kd.R_drew)); exact HO_5.out⟩, ⟨by repeat (first | (with_reducible first | exact HB.out | apply below_alloc | apply pw_below_drewN | apply below_drew1) | exact HB.out)⟩⟩
                        · rw [if_neg c27] at H
                          exact absurd H (by simp)
                      · rw [if_neg c26] at H
                        exact absurd H (by simp)
                    · rw [if_neg c25] at H
                      exact absurd H (by simp)
              · rw [if_neg c17] at H
                exact absurd H (by simp)
            · rw [if_neg c16] at H
              exact absurd H (by simp)
          · rw [if_neg c15] at H
            have c15b0 : decide (x7_1 < (t835.length : Int)) = false := decide_eq_false c15
            clear c15
            replace H := Option.bind_eq_some_iff.mp H
            obtain ⟨⟨t838, t839⟩, A310, H⟩ := H
            replace H : (if x6_1 = (l0.length : Int) then (if t838 = true then (none) else ((magnetolaw05_awake.f k1).bind fun t840 => (some t840))) else (none)) = some r := H
            have A31 := Aside0.mk A310
            clear A310
            by_cases c32 : x6_1 = (l0.length : Int)
            · rw [if_pos c32] at H
              have c32b0 : (x6_1 == (l0.length : Int)) = true := beq_iff_eq.mpr c32
              have c32b1 : (x6_1 != (l0.length : Int)) = false := bne_eq_false_iff_eq.mpr c32
              clear c32
              by_cases c33 : t838 = true
              · subst c33
                have H1 : (none) = some r := by rw [if_pos rfl] at H; exact H
                clear H
                have H := H1
                clear H1
                exact absurd H (by simp)
              · replace c33 := Bool.eq_false_iff.mpr c33
                subst c33
                have H1 : ((magnetolaw05_awake.f k1).bind fun t840 => (some t840)) = some r := by rw [if_neg (show ¬ (false = true) by decide)] at H; exact H
                clear H
                have H := H1
                clear H1
                replace H := Option.bind_eq_some_iff.mp H
                obtain ⟨t840, A340, H⟩ := H
                replace H : (some t840) = some r := H
                have A34 := Aside0.mk A340
                clear A340
                obtain rfl := Option.some.inj H
                obtain ⟨Ao35, co35, eo35⟩ := Kd.R_slice HO_5.out
                subst eo35
                go_wp2_with (first | (go_at_call 53; (with_reducible refine (stuff_Next.calls k1 _ _ t835 false t839 _ ?side1 ?side2 A31.out).mono ?_); (case side1 => repeat (first | exact (Kd.R_reads' HO_5.out).2.2 | (with_reducible refine Kd.C_alloc ?_ _) | (with_reducible refine Kd.C_drewN ?_ _) | (with_reducible refine Kd.C_drew ?_))); (case side2 => exact (Kd.R_reads' HO_5.out).2.1); rintro e w36 ⟨rfl, hb⟩; have n0_ := Aside0.mk (Kd.R_below (by (with_reducible repeat (first | apply Kd.R_alloc | apply Kd.R_drewN | apply Kd.R_drew)); exact HO_5.out) hb); have n1_ := Aside0.mk (below_step (by repeat (first | (with_reducible first | exact HB.out | apply below_alloc | apply pw_below_drewN | apply below_drew1) | exact HB.out)) hb); clear HO_5; clear HB; have HO_5 := n0_; have HB := n1_; clear n0_ n1_; (try clear hb); (try clear hb2); (try clear hk); (try clear hi)) | (go_at_call 45; (with_reducible refine (magnetolaw05_awake.calls k1  t840 _ A34.out).mono ?_); rintro e w37 ⟨rfl, hb⟩; have n0_ := Aside0.mk (Kd.R_below (by (with_reducible repeat (first | apply Kd.R_alloc | apply Kd.R_drewN | apply Kd.R_drew)); exact HO_5.out) hb); have n1_ := Aside0.mk (below_step (by repeat (first | (with_reducible first | exact HB.out | apply below_alloc | apply pw_below_drewN | apply below_drew1) | exact HB.out)) hb); clear HO_5; clear HB; have HO_5 := n0_; have HB := n1_; clear n0_ n1_; (try clear hb); (try clear hb2); (try clear hk); (try clear hi)))
                repeat (go_quiet (first | (go_at_call 53; (with_reducible refine (stuff_Next.calls k1 _ _ t835 false t839 _ ?side1 ?side2 A31.out).mono ?_); (case side1 => repeat (first | exact (Kd.R_reads' HO_5.out).2.2 | (with_reducible refine Kd.C_alloc ?_ _) | (with_reducible refine Kd.C_drewN ?_ _) | (with_reducible refine Kd.C_drew ?_))); (case side2 => exact (Kd.R_reads' HO_5.out).2.1); rintro e w36 ⟨rfl, hb⟩; have n0_ := Aside0.mk (Kd.R_below (by (with_reducible repeat (first | apply Kd.R_alloc | apply Kd.R_drewN | apply Kd.R_drew)); exact HO_5.out) hb); have n1_ := Aside0.mk (below_step (by repeat (first | (with_reducible first | exact HB.out | apply below_alloc | apply pw_below_drewN | apply below_drew1) | exact HB.out)) hb); clear HO_5; clear HB; have HO_5 := n0_; have HB := n1_; clear n0_ n1_; (try clear hb); (try clear hb2); (try clear hk); (try clear hi)) | (go_at_call 45; (with_reducible refine (magnetolaw05_awake.calls k1  t840 _ A34.out).mono ?_); rintro e w37 ⟨rfl, hb⟩; have n0_ := Aside0.mk (Kd.R_below (by (with_reducible repeat (first | apply Kd.R_alloc | apply Kd.R_drewN | apply Kd.R_drew)); exact HO_5.out) hb); have n1_ := Aside0.mk (below_step (by repeat (first | (with_reducible first | exact HB.out | apply below_alloc | apply pw_below_drewN | apply below_drew1) | exact HB.out)) hb); clear HO_5; clear HB; have HO_5 := n0_; have HB := n1_; clear n0_ n1_; (try clear hb); (try clear hb2); (try clear hk); (try clear hi))); try go_wp2_with (first | (go_at_call 53; (with_reducible refine (stuff_Next.calls k1 _ _ t835 false t839 _ ?side1 ?side2 A31.out).mono ?_); (case side1 => repeat (first | exact (Kd.R_reads' HO_5.out).2.2 | (with_reducible refine Kd.C_alloc ?_ _) | (with_reducible refine Kd.C_drewN ?_ _) | (with_reducible refine Kd.C_drew ?_))); (case side2 => exact (Kd.R_reads' HO_5.out).2.1); rintro e w36 ⟨rfl, hb⟩; have n0_ := Aside0.mk (Kd.R_below (by (with_reducible repeat (first | apply Kd.R_alloc | apply Kd.R_drewN | apply Kd.R_drew)); exact HO_5.out) hb); have n1_ := Aside0.mk (below_step (by repeat (first | (with_reducible first | exact HB.out | apply below_alloc | apply pw_below_drewN | apply below_drew1) | exact HB.out)) hb); clear HO_5; clear HB; have HO_5 := n0_; have HB := n1_; clear n0_ n1_; (try clear hb); (try clear hb2); (try clear hk); (try clear hi)) | (go_at_call 45; (with_reducible refine (magnetolaw05_awake.calls k1  t840 _ A34.out).mono ?_); rintro e w37 ⟨rfl, hb⟩; have n0_ := Aside0.mk (Kd.R_below (by (with_reducible repeat (first | apply Kd.R_alloc | apply Kd.R_drewN | apply Kd.R_drew)); exact HO_5.out) hb); have n1_ := Aside0.mk (below_step (by repeat (first | (with_reducible first | exact HB.out | apply below_alloc | apply pw_below_drewN | apply below_drew1) | exact HB.out)) hb); clear HO_5; clear HB; have HO_5 := n0_; have HB := n1_; clear n0_ n1_; (try clear hb); (try clear hb2); (try clear hk); (try clear hi))))
                go_ret
                exact ⟨by first | rfl | (simp [errW_none, errW_some] <;> rfl) | (simp [*, errW_none, errW_some] <;> rfl), by repeat (first | (with_reducible first | exact HB.out | apply below_alloc | apply pw_below_drewN | apply below_drew1) | exact HB.out)⟩
            · rw [if_neg c32] at H
              exact absurd H (by simp)

/-- THE ONE PURE STATEMENT of magnetolaw05_StuffNext: yours. -/
def magnetolaw05_StuffNext.Pure : Prop := ∀ (l0 : List Int), l0.length ≤ maxLen → l0.length * 8 ≤ 140737488351232 → (∀ x ∈ l0, (Lit.int .i64 x).wf = true) → ∃ k, magnetolaw05_StuffNext.f k l0 = some true
theorem magnetolaw05_StuffNext.walk (P : magnetolaw05_StuffNext.Pure) (a0 : Option Addr) (len0 cap0 : Nat) (z0 : List Int) (w : World) (w0 : (a0 = none ∧ len0 = 0 ∧ cap0 = 0 ∧ z0 = []) ∨ ∃ x, a0 = some x ∧ len0 ≤ cap0 ∧ cap0 ≤ maxLen ∧ z0.length = cap0 ∧ (∀ i, i < z0.length → w.cell? (x.add i) = some (.int .i64 (z0.getD i 0))) ∧ ∀ n ∈ z0, (Lit.int .i64 n).wf = true) (y0 : len0 * 8 ≤ 140737488351232) :
    Calls Try.prog 20 #[.slice a0 len0 cap0] w fun e w' => e = .returned (.bool true) ∧ Below w.heap.size w w' := by
  obtain ⟨l0, rfl, hr0, hm0, hw0, hc0⟩ := ReadsInt.ofRowC w0
  obtain ⟨k, h⟩ := P l0 hm0 y0 hw0
  refine (magnetolaw05_StuffNext.calls k _ _ l0 true w (Kd.C_of_reads (d := (0 : Int)) (h1 := fun _ => rfl) hr0) hc0 h).mono ?_
  rintro e w' ⟨rfl, hd⟩
  exact ⟨rfl, hd⟩

end Go.Proofs.Ytclmogjmmcjppaa.PA
