-- PRINTED by print.py (a twelfth state) out of the translation. Not trusted: Lean checks it.
import Derived.Test.YtclmogjmmcjppaaPAx0
import Derived.Test.YtclmogjmmcjppaaPAx3
import Derived.Test.YtclmogjmmcjppaaPAx17
import Derived.Test.YtclmogjmmcjppaaPAx18
import Derived.Test.YtclmogjmmcjppaaPAx19
import Derived.Test.YtclmogjmmcjppaaPAx20
import Derived.Test.YtclmogjmmcjppaaPAx21
namespace Go.Proofs.Ytclmogjmmcjppaa.PA
open Go.RowKit Go.Proofs.YtclmogjmmcjppaaW.PrintWords Go.Proofs.YtclmogjmmcjppaaW.PrintLast Go.Proofs.YtclmogjmmcjppaaW.PrintMore
attribute [local go_sem] max2_int min2_int max_two min_two max_three min_three max_four min_four   -- for this text's walks alone
set_option linter.unusedVariables false
set_option linter.unusedSimpArgs false

/-! ### magnetolaw05_StuffAdds: function 15 -/
mutual
def magnetolaw05_StuffAdds.j0 : Nat → List Int → Int → List Int → Int → Option (Bool)
  | 0, _, _, _, _ => none
  | k + 1, x0, x1, x5, x6 => (stuff_Add.f x0).bind fun t655 => ((magnetolaw05_ints.f k t655 x5).bind fun t658 => (if t658 = true then ((stuff_Count.f x0).bind fun t659 => (magnetolaw05_StuffAdds.j1 k x1 (t659 != x6))) else (none)))
def magnetolaw05_StuffAdds.j1 : Nat → Int → Bool → Option (Bool)
  | 0, _, _ => none
  | k + 1, x1, x33 => if x33 = true then (none) else ((stuff_Most.f x1).bind fun bt660 => (if x1 < 0 then (if bt660.1 = 0 then (if bt660.2 = 10 then ((magnetolaw05_awake.f k).bind fun t662 => (some t662)) else (none)) else (none)) else (if x1 = 0 then (if bt660.1 = 0 then (if bt660.2 = 0 then ((magnetolaw05_awake.f k).bind fun t663 => (some t663)) else (none)) else (none)) else (if bt660.1 = (wrap64 (Int.tdiv (wrap64 (x1 - 1)) 4)) then (if bt660.2 = 0 then ((magnetolaw05_awake.f k).bind fun t664 => (some t664)) else (none)) else (none)))))
end
def magnetolaw05_StuffAdds.f (k : Nat) (l0 : List Int) (a1 : Int) : Option (Bool) := if (l0.length : Int) > 300 then ((magnetolaw05_awake.f k).bind fun t650 => (some t650)) else ((magnetoref05_Add.f k l0).bind fun t651 => ((magnetoref01_Check.f k l0).bind fun t654 => (if t654 < 0 then (magnetolaw05_StuffAdds.j0 k l0 a1 t651 (wrap64 ((t651.length : Int) - (l0.length : Int)))) else (magnetolaw05_StuffAdds.j0 k l0 a1 t651 0))))
theorem magnetolaw05_StuffAdds.mono_l : ∀ k, (∀ y0 y1 y2 y3, LeO (magnetolaw05_StuffAdds.j0 k y0 y1 y2 y3) (magnetolaw05_StuffAdds.j0 (k + 1) y0 y1 y2 y3)) ∧ (∀ y0 y1, LeO (magnetolaw05_StuffAdds.j1 k y0 y1) (magnetolaw05_StuffAdds.j1 (k + 1) y0 y1))
  | 0 => ⟨fun _ _ _ _ r h => by simp [magnetolaw05_StuffAdds.j0] at h, fun _ _ r h => by simp [magnetolaw05_StuffAdds.j1] at h⟩
  | k + 1 => by
    obtain ⟨ih0, ih1⟩ := magnetolaw05_StuffAdds.mono_l k
    refine ⟨?_, ?_⟩
    · intro y0 y1 y2 y3
      unfold magnetolaw05_StuffAdds.j0
      repeat' first
      | (with_reducible exact ih0 _ _ _ _)
      | (with_reducible exact ih1 _ _)
      | (with_reducible exact magnetolaw05_awake.mono _)
      | (with_reducible exact magnetolaw05_ints.mono _ _ _)
      | (with_reducible exact magnetoref01_Check.mono _ _)
      | (with_reducible exact magnetoref05_Add.mono _ _)
      | (with_reducible exact LeO.refl _)
      | (with_reducible exact LeO.none _)
      | (with_reducible refine LeO.ite ?_ ?_)
      | (with_reducible refine LeO.bind ?_ (fun _ => ?_))
      | exact ih0 _ _ _ _
      | exact ih1 _ _
      | exact magnetolaw05_awake.mono _
      | exact magnetolaw05_ints.mono _ _ _
      | exact magnetoref01_Check.mono _ _
      | exact magnetoref05_Add.mono _ _
      | exact LeO.none _
      | refine LeO.ite ?_ ?_
      | refine LeO.bind ?_ (fun _ => ?_)
    · intro y0 y1
      unfold magnetolaw05_StuffAdds.j1
      repeat' first
      | (with_reducible exact ih0 _ _ _ _)
      | (with_reducible exact ih1 _ _)
      | (with_reducible exact magnetolaw05_awake.mono _)
      | (with_reducible exact magnetolaw05_ints.mono _ _ _)
      | (with_reducible exact magnetoref01_Check.mono _ _)
      | (with_reducible exact magnetoref05_Add.mono _ _)
      | (with_reducible exact LeO.refl _)
      | (with_reducible exact LeO.none _)
      | (with_reducible refine LeO.ite ?_ ?_)
      | (with_reducible refine LeO.bind ?_ (fun _ => ?_))
      | exact ih0 _ _ _ _
      | exact ih1 _ _
      | exact magnetolaw05_awake.mono _
      | exact magnetolaw05_ints.mono _ _ _
      | exact magnetoref01_Check.mono _ _
      | exact magnetoref05_Add.mono _ _
      | exact LeO.none _
      | refine LeO.ite ?_ ?_
      | refine LeO.bind ?_ (fun _ => ?_)
theorem magnetolaw05_StuffAdds.mono : ∀ a0 a1 k, LeO (magnetolaw05_StuffAdds.f k a0 a1) (magnetolaw05_StuffAdds.f (k + 1) a0 a1) := by
  intro a0 a1 k
  obtain ⟨ih0, ih1⟩ := magnetolaw05_StuffAdds.mono_l k
  unfold magnetolaw05_StuffAdds.f
  repeat' first
      | (with_reducible exact ih0 _ _ _ _)
      | (with_reducible exact ih1 _ _)
      | (with_reducible exact magnetolaw05_awake.mono _)
      | (with_reducible exact magnetolaw05_ints.mono _ _ _)
      | (with_reducible exact magnetoref01_Check.mono _ _)
      | (with_reducible exact magnetoref05_Add.mono _ _)
      | (with_reducible exact LeO.refl _)
      | (with_reducible exact LeO.none _)
      | (with_reducible refine LeO.ite ?_ ?_)
      | (with_reducible refine LeO.bind ?_ (fun _ => ?_))
      | exact ih0 _ _ _ _
      | exact ih1 _ _
      | exact magnetolaw05_awake.mono _
      | exact magnetolaw05_ints.mono _ _ _
      | exact magnetoref01_Check.mono _ _
      | exact magnetoref05_Add.mono _ _
      | exact LeO.none _
      | refine LeO.ite ?_ ?_
      | refine LeO.bind ?_ (fun _ => ?_)
set_option maxHeartbeats 8000000 in
set_option maxRecDepth 100000 in
theorem magnetolaw05_StuffAdds.calls (k : Nat) (A0 : Option Addr) (c0 : Nat) (l0 : List Int) (a1 : Int) (r : Bool) (w : World) (hr0 : Kd.C (Kd.int .i64) w A0 l0.length l0) (hc0 : l0.length ≤ c0) (h : magnetolaw05_StuffAdds.f k l0 a1 = some r) :
    Calls Try.prog 15 #[.slice A0 l0.length c0, .int .i64 a1] w fun e w' => e = .returned (.bool r) ∧ Below w.heap.size w w' := by
  have HR0 := Aside0.mk hr0
  have HC0 := Aside0.mk hc0
  clear hr0 hc0
  have HB := Aside0.mk (Below.refl w.heap.size w)
  have H : (if (l0.length : Int) > 300 then ((magnetolaw05_awake.f k).bind fun t650 => (some t650)) else ((magnetoref05_Add.f k l0).bind fun t651 => ((magnetoref01_Check.f k l0).bind fun t654 => (if t654 < 0 then (magnetolaw05_StuffAdds.j0 k l0 a1 t651 (wrap64 ((t651.length : Int) - (l0.length : Int)))) else (magnetolaw05_StuffAdds.j0 k l0 a1 t651 0))))) = some r := h
  clear h
  by_cases c3 : (l0.length : Int) > 300
  · rw [if_pos c3] at H
    have c3b0 : decide (300 < (l0.length : Int)) = true := decide_eq_true c3
    have c3b1 : decide (300 < l0.length) = true := decide_eq_true (by omega)
    clear c3
    replace H := Option.bind_eq_some_iff.mp H
    obtain ⟨t650, A40, H⟩ := H
    replace H : (some t650) = some r := H
    have A4 := Aside0.mk A40
    clear A40
    obtain rfl := Option.some.inj H
    go_enter Try.func15, Try.ntmps15
    go_wp2_with (first | ((with_reducible refine gate_callee (f := 45) rfl ?_); refine goesL_ (some 12) rfl rfl Try.func45 (by kernel_rfl) rfl #[] rfl (by (try simp only [List.map_toArray, List.map_cons, List.map_nil]); first | done | rfl | (simp only [List.length_drop, List.length_take]; rfl)) ?_; (with_reducible refine (magnetolaw05_awake.calls k  t650 _ A4.out).mono ?_); rintro e w5 ⟨rfl, hb⟩; refine ⟨_, rfl, ?_⟩; have n0_ := Aside0.mk (below_step (by repeat (first | (with_reducible first | exact HB.out | apply below_alloc | apply pw_below_drewN | apply below_drew1) | exact HB.out)) hb); clear HB; have HB := n0_; clear n0_; (try clear hb); (try clear hb2); (try clear hk); (try clear hi)))
    go_ret
    exact ⟨by first | rfl | (simp [errW_none, errW_some] <;> rfl) | (simp [*, errW_none, errW_some] <;> rfl), by repeat (first | (with_reducible first | exact HB.out | apply below_alloc | apply pw_below_drewN | apply below_drew1) | exact HB.out)⟩
  · rw [if_neg c3] at H
    have c3b0 : decide (300 < (l0.length : Int)) = false := decide_eq_false c3
    have c3b1 : decide (300 < l0.length) = false := decide_eq_false (by omega)
    clear c3
    replace H := Option.bind_eq_some_iff.mp H
    obtain ⟨t651, A60, H⟩ := H
    replace H : ((magnetoref01_Check.f k l0).bind fun t654 => (if t654 < 0 then (magnetolaw05_StuffAdds.j0 k l0 a1 t651 (wrap64 ((t651.length : Int) - (l0.length : Int)))) else (magnetolaw05_StuffAdds.j0 k l0 a1 t651 0))) = some r := H
    have A6 := Aside0.mk A60
    clear A60
    replace H := Option.bind_eq_some_iff.mp H
    obtain ⟨t654, A70, H⟩ := H
    replace H : (if t654 < 0 then (magnetolaw05_StuffAdds.j0 k l0 a1 t651 (wrap64 ((t651.length : Int) - (l0.length : Int)))) else (magnetolaw05_StuffAdds.j0 k l0 a1 t651 0)) = some r := H
    have A7 := Aside0.mk A70
    clear A70
    have HC8 := Aside0.mk H
    clear H
    go_enter Try.func15, Try.ntmps15
    go_upto_if 17 with (first | ((with_reducible refine gate_callee (f := 46) rfl ?_); refine goesL_ (some 14) rfl rfl Try.func46 (by kernel_rfl) rfl #[.slice A0 l0.length c0] rfl (by (try simp only [List.map_toArray, List.map_cons, List.map_nil]); first | done | rfl | (simp only [List.length_drop, List.length_take]; rfl)) ?_; (with_reducible refine (magnetoref05_Add.calls k _ _ l0 t651 _ ?side1 ?side2 A6.out).mono ?_); (case side1 => repeat (first | exact HR0.out | (with_reducible refine Kd.C_alloc ?_ _) | (with_reducible refine Kd.C_drewN ?_ _) | (with_reducible refine Kd.C_drew ?_))); (case side2 => exact HC0.out); rintro e w9 ⟨v652, rfl, ho0, hb⟩; refine ⟨_, rfl, ?_⟩; have n0_ := Aside0.mk (Kd.R_lower ho0 (below_size (by repeat (first | (with_reducible first | exact HB.out | apply below_alloc | apply pw_below_drewN | apply below_drew1) | exact HB.out)))); have n1_ := Aside0.mk (below_step (by repeat (first | (with_reducible first | exact HB.out | apply below_alloc | apply pw_below_drewN | apply below_drew1) | exact HB.out)) hb); clear HB; have HO653 := n0_; have HB := n1_; clear n0_ n1_; (try clear hb); (try clear hb2); (try clear hk); (try clear hi); (try clear ho0)) | ((with_reducible refine gate_callee (f := 22) rfl ?_); refine goesL_ (some 16) rfl rfl Try.func22 (by kernel_rfl) rfl #[.slice A0 l0.length c0] rfl (by (try simp only [List.map_toArray, List.map_cons, List.map_nil]); first | done | rfl | (simp only [List.length_drop, List.length_take]; rfl)) ?_; (with_reducible refine (magnetoref01_Check.calls k _ _ l0 t654 _ ?side1 ?side2 A7.out).mono ?_); (case side1 => repeat (first | exact (Kd.C_below HR0.out HB.out) | (with_reducible refine Kd.C_alloc ?_ _) | (with_reducible refine Kd.C_drewN ?_ _) | (with_reducible refine Kd.C_drew ?_))); (case side2 => exact HC0.out); rintro e w' ⟨rfl, ⟨nd, rfl⟩⟩; refine ⟨_, rfl, ?_⟩))
    (try simp only [Act.put, List.setIfInBounds_toArray, List.set_cons_zero, List.set_cons_succ])
    go_cut [6] (fun v6 wc => ∃ (kq : Nat) (x6_7 : Int), v6 = .int .i64 x6_7 ∧ Aside0 (magnetolaw05_StuffAdds.j0 kq l0 a1 t651 x6_7 = some r) ∧ Aside0 (kq ≤ k) ∧ Aside0 (Kd.R (Kd.int .i64) 3 wc w.heap.size (fun _ => True) v652 t651) ∧ Aside0 (Below w.heap.size w wc))
    case first =>
      have H := HC8.out
      clear HC8
      by_cases c10 : t654 < 0
      · rw [if_pos c10] at H
        have c10b0 : decide (t654 < 0) = true := decide_eq_true c10
        clear c10
        (first | rw [c10b0] | (simp only [i64_w, i32_w]; rw [c10b0]) | skip)
        have H' := Aside0.mk H
        clear H
        obtain ⟨Ao11, co11, eo11⟩ := Kd.R_slice HO653.out
        subst eo11
        go_wp2
        go_meet
        case rel => exact ⟨_, (wrap64 ((t651.length : Int) - (l0.length : Int))), (by first | rfl | (simp; done) | (simp [*]; done)), H', ⟨by first | omega | exact Nat.le_refl _⟩, ⟨by (with_reducible repeat (first | apply Kd.R_alloc | apply Kd.R_drewN | apply Kd.R_drew)); exact HO653.out⟩, ⟨by repeat (first | (with_reducible first | exact HB.out | apply below_alloc | apply pw_below_drewN | apply below_drew1) | exact HB.out)⟩⟩
      · rw [if_neg c10] at H
        have c10b0 : decide (t654 < 0) = false := decide_eq_false c10
        clear c10
        (first | rw [c10b0] | (simp only [i64_w, i32_w]; rw [c10b0]) | skip)
        have H' := Aside0.mk H
        clear H
        go_wp2
        go_meet
        case rel => exact ⟨_, (0), (by first | rfl | (simp; done) | (simp [*]; done)), H', ⟨by first | omega | exact Nat.le_refl _⟩, ⟨by (with_reducible repeat (first | apply Kd.R_alloc | apply Kd.R_drewN | apply Kd.R_drew)); exact HO653.out⟩, ⟨by repeat (first | (with_reducible first | exact HB.out | apply below_alloc | apply pw_below_drewN | apply below_drew1) | exact HB.out)⟩⟩
    case rest =>
      clear HC8
      try clear c1
      try clear c2
      try clear p2
      try clear c3
      try clear c3b0
      try clear c3b1
      try clear c4
      try clear p6
      try clear c10
      try clear c10b0
      obtain ⟨kq, x6_7, rfl, HA, HJ7, HO_5, HB⟩ := hcut
      cases kq with
      | zero => exact absurd HA.out (by simp [magnetolaw05_StuffAdds.j0])
      | succ kj7 =>
        have H := HA.out
        clear HA
        simp only [magnetolaw05_StuffAdds.j0] at H
        have HC12 := Aside0.mk H
        clear H
        go_upto_region 7 with (fail)
        go_cut [33] (fun v33 wc => ∃ (kq : Nat) (x33_11 : Bool), v33 = .bool x33_11 ∧ Aside0 (magnetolaw05_StuffAdds.j1 kq a1 x33_11 = some r) ∧ Aside0 (kq ≤ kj7) ∧ Aside0 (Below w.heap.size w wc))
        case first =>
          have H := HC12.out
          clear HC12
          replace H := Option.bind_eq_some_iff.mp H
          obtain ⟨t655, A130, H⟩ := H
          replace H : ((magnetolaw05_ints.f kj7 t655 t651).bind fun t658 => (if t658 = true then ((stuff_Count.f l0).bind fun t659 => (magnetolaw05_StuffAdds.j1 kj7 a1 (t659 != x6_7))) else (none))) = some r := H
          have A13 := Aside0.mk A130
          clear A130
          replace H := Option.bind_eq_some_iff.mp H
          obtain ⟨t658, A140, H⟩ := H
          replace H : (if t658 = true then ((stuff_Count.f l0).bind fun t659 => (magnetolaw05_StuffAdds.j1 kj7 a1 (t659 != x6_7))) else (none)) = some r := H
          have A14 := Aside0.mk A140
          clear A140
          by_cases c15 : t658 = true
          · subst c15
            have H1 : ((stuff_Count.f l0).bind fun t659 => (magnetolaw05_StuffAdds.j1 kj7 a1 (t659 != x6_7))) = some r := by rw [if_pos rfl] at H; exact H
            clear H
            have H := H1
            clear H1
            replace H := Option.bind_eq_some_iff.mp H
            obtain ⟨t659, A160, H⟩ := H
            replace H : (magnetolaw05_StuffAdds.j1 kj7 a1 (t659 != x6_7)) = some r := H
            have A16 := Aside0.mk A160
            clear A160
            have H' := Aside0.mk H
            clear H
            go_wp2_with (first | ((with_reducible refine gate_callee (f := 48) rfl ?_); refine goesL_ (some 24) rfl rfl Try.func48 (by kernel_rfl) rfl #[.slice A0 l0.length c0] rfl (by (try simp only [List.map_toArray, List.map_cons, List.map_nil]); first | done | rfl | (simp only [List.length_drop, List.length_take]; rfl)) ?_; (with_reducible refine (stuff_Add.calls _ _ l0 t655 _ ?side1 ?side2 A13.out).mono ?_); (case side1 => repeat (first | exact (Kd.C_below HR0.out HB.out) | (with_reducible refine Kd.C_alloc ?_ _) | (with_reducible refine Kd.C_drewN ?_ _) | (with_reducible refine Kd.C_drew ?_))); (case side2 => exact HC0.out); rintro e w17 ⟨v656, rfl, ho0, hb⟩; refine ⟨_, rfl, ?_⟩; have n0_ := Aside0.mk (Kd.R_elder' (by (with_reducible repeat (first | apply Kd.R_alloc | apply Kd.R_drewN | apply Kd.R_drew)); exact HO_5.out) (Kd.R_base ho0) hb); have n1_ := Aside0.mk (Kd.R_lower (Kd.R_new' ho0 (Kd.R_lt (by (with_reducible repeat (first | apply Kd.R_alloc | apply Kd.R_drewN | apply Kd.R_drew)); exact HO_5.out))) (below_size (by repeat (first | (with_reducible first | exact HB.out | apply below_alloc | apply pw_below_drewN | apply below_drew1) | exact HB.out)))); have n2_ := Aside0.mk (below_step (by repeat (first | (with_reducible first | exact HB.out | apply below_alloc | apply pw_below_drewN | apply below_drew1) | exact HB.out)) hb); clear HO_5; clear HB; have HO_5 := n0_; have HO657 := n1_; have HB := n2_; clear n0_ n1_ n2_; (try clear hb); (try clear hb2); (try clear hk); (try clear hi); (try clear ho0); obtain ⟨Ao18, co18, eo18⟩ := Kd.R_slice HO657.out; subst eo18; obtain ⟨Ao19, co19, eo19⟩ := Kd.R_slice HO_5.out; subst eo19) | ((with_reducible refine gate_callee (f := 47) rfl ?_); refine goesL_ (some 26) rfl rfl Try.func47 (by kernel_rfl) rfl #[.slice Ao18 t655.length co18, .slice Ao19 t651.length co19] rfl (by (try simp only [List.map_toArray, List.map_cons, List.map_nil]); first | done | rfl | (simp only [List.length_drop, List.length_take]; rfl)) ?_; (with_reducible refine (magnetolaw05_ints.calls kj7 _ _ t655 _ _ t651 true _ ?side1 ?side2 ?side3 ?side4 A14.out).mono ?_); (case side1 => repeat (first | exact (Kd.R_reads' HO657.out).2.2 | (with_reducible refine Kd.C_alloc ?_ _) | (with_reducible refine Kd.C_drewN ?_ _) | (with_reducible refine Kd.C_drew ?_))); (case side2 => exact (Kd.R_reads' HO657.out).2.1); (case side3 => repeat (first | exact (Kd.R_reads' HO_5.out).2.2 | (with_reducible refine Kd.C_alloc ?_ _) | (with_reducible refine Kd.C_drewN ?_ _) | (with_reducible refine Kd.C_drew ?_))); (case side4 => exact (Kd.R_reads' HO_5.out).2.1); rintro e w' ⟨rfl, ⟨nd, rfl⟩⟩; refine ⟨_, rfl, ?_⟩) | (go_at_call 49; (with_reducible refine (stuff_Count.calls _ _ l0 t659 _ ?side1 ?side2 A16.out).mono ?_); (case side1 => repeat (first | exact (Kd.C_below HR0.out (by repeat (first | (with_reducible first | exact HB.out | apply below_alloc | apply pw_below_drewN | apply below_drew1) | exact HB.out))) | (with_reducible refine Kd.C_alloc ?_ _) | (with_reducible refine Kd.C_drewN ?_ _) | (with_reducible refine Kd.C_drew ?_))); (case side2 => exact HC0.out); rintro e w20 ⟨rfl, hb⟩; have n0_ := Aside0.mk (Kd.R_below (by (with_reducible repeat (first | apply Kd.R_alloc | apply Kd.R_drewN | apply Kd.R_drew)); exact HO_5.out) hb); have n1_ := Aside0.mk (Kd.R_below (by (with_reducible repeat (first | apply Kd.R_alloc | apply Kd.R_drewN | apply Kd.R_drew)); exact HO657.out) hb); have n2_ := Aside0.mk (below_step (by repeat (first | (with_reducible first | exact HB.out | apply below_alloc | apply pw_below_drewN | apply below_drew1) | exact HB.out)) hb); clear HO_5; clear HO657; clear HB; have HO_5 := n0_; have HO657 := n1_; have HB := n2_; clear n0_ n1_ n2_; (try clear hb); (try clear hb2); (try clear hk); (try clear hi)))
            go_meet
            case rel => exact ⟨_, ((t659 != x6_7)), (by first | rfl | (simp; done) | (simp [*]; done)), H', ⟨by have := HJ7.out; first | omega | exact Nat.le_refl _⟩, ⟨by repeat (first | (with_reducible first | exact HB.out | apply below_alloc | apply pw_below_drewN | apply below_drew1) | exact HB.out)⟩⟩
          · replace c15 := Bool.eq_false_iff.mpr c15
            subst c15
            have H1 : (none) = some r := by rw [if_neg (show ¬ (false = true) by decide)] at H; exact H
            clear H
            have H := H1
            clear H1
            exact absurd H (by simp)
        case rest =>
          clear HC12
          try clear c1
          try clear c2
          try clear p2
          try clear c3
          try clear c3b0
          try clear c3b1
          try clear c4
          try clear p6
          try clear c10
          try clear c10b0
          try clear c15
          try clear p2
          try clear p6
          obtain ⟨kq, x33_11, rfl, HA, HJ11, HB⟩ := hcut
          cases kq with
          | zero => exact absurd HA.out (by simp [magnetolaw05_StuffAdds.j1])
          | succ kj11 =>
            have H := HA.out
            clear HA
            simp only [magnetolaw05_StuffAdds.j1] at H
            by_cases c21 : x33_11 = true
            · subst c21
              have H1 : (none) = some r := by rw [if_pos rfl] at H; exact H
              clear H
              have H := H1
              clear H1
              exact absurd H (by simp)
            · replace c21 := Bool.eq_false_iff.mpr c21
              subst c21
              have H1 : ((stuff_Most.f a1).bind fun bt660 => (if a1 < 0 then (if bt660.1 = 0 then (if bt660.2 = 10 then ((magnetolaw05_awake.f kj11).bind fun t662 => (some t662)) else (none)) else (none)) else (if a1 = 0 then (if bt660.1 = 0 then (if bt660.2 = 0 then ((magnetolaw05_awake.f kj11).bind fun t663 => (some t663)) else (none)) else (none)) else (if bt660.1 = (wrap64 (Int.tdiv (wrap64 (a1 - 1)) 4)) then (if bt660.2 = 0 then ((magnetolaw05_awake.f kj11).bind fun t664 => (some t664)) else (none)) else (none))))) = some r := by rw [if_neg (show ¬ (false = true) by decide)] at H; exact H
              clear H
              have H := H1
              clear H1
              replace H := Option.bind_eq_some_iff.mp H
              obtain ⟨⟨t660, t661⟩, A220, H⟩ := H
              replace H : (if a1 < 0 then (if t660 = 0 then (if t661 = 10 then ((magnetolaw05_awake.f kj11).bind fun t662 => (some t662)) else (none)) else (none)) else (if a1 = 0 then (if t660 = 0 then (if t661 = 0 then ((magnetolaw05_awake.f kj11).bind fun t663 => (some t663)) else (none)) else (none)) else (if t660 = (wrap64 (Int.tdiv (wrap64 (a1 - 1)) 4)) then (if t661 = 0 then ((magnetolaw05_awake.f kj11).bind fun t664 => (some t664)) else (none)) else (none)))) = some r := H
              have A22 := Aside0.mk A220
              clear A220
              by_cases c23 : a1 < 0
              · rw [if_pos c23] at H
                have c23b0 : decide (a1 < 0) = true := decide_eq_true c23
                clear c23
                by_cases c24 : t660 = 0
                · rw [if_pos c24] at H
                  have c24b0 : (t660 == 0) = true := beq_iff_eq.mpr c24
                  have c24b1 : (t660 != 0) = false := bne_eq_false_iff_eq.mpr c24
                  clear c24
                  by_cases c25 : t661 = 10
                  · rw [if_pos c25] at H
                    have c25b0 : (t661 == 10) = true := beq_iff_eq.mpr c25
                    have c25b1 : (t661 != 10) = false := bne_eq_false_iff_eq.mpr c25
                    clear c25
                    replace H := Option.bind_eq_some_iff.mp H
                    obtain ⟨t662, A260, H⟩ := H
                    replace H : (some t662) = some r := H
                    have A26 := Aside0.mk A260
                    clear A260
                    obtain rfl := Option.some.inj H
                    go_wp2_with (first | ((with_reducible refine gate_callee (f := 50) rfl ?_); refine goesL_ (some 36) rfl rfl Try.func50 (by kernel_rfl) rfl #[.int .i64 a1] rfl (by (try simp only [List.map_toArray, List.map_cons, List.map_nil]); first | done | rfl | (simp only [List.length_drop, List.length_take]; rfl)) ?_; (with_reducible refine (stuff_Most.calls a1 t660 t661 _ A22.out).mono ?_); rintro e w' ⟨rfl, ⟨nd, rfl⟩⟩; refine ⟨_, rfl, ?_⟩) | (go_at_call 45; (with_reducible refine (magnetolaw05_awake.calls kj11  t662 _ A26.out).mono ?_); rintro e w27 ⟨rfl, hb⟩; have n0_ := Aside0.mk (below_step (by repeat (first | (with_reducible first | exact HB.out | apply below_alloc | apply pw_below_drewN | apply below_drew1) | exact HB.out)) hb); clear HB; have HB := n0_; clear n0_; (try clear hb); (try clear hb2); (try clear hk); (try clear hi)))
                    go_ret
                    exact ⟨by first | rfl | (simp [errW_none, errW_some] <;> rfl) | (simp [*, errW_none, errW_some] <;> rfl), by repeat (first | (with_reducible first | exact HB.out | apply below_alloc | apply pw_below_drewN | apply below_drew1) | exact HB.out)⟩
                  · rw [if_neg c25] at H
                    exact absurd H (by simp)
                · rw [if_neg c24] at H
                  exact absurd H (by simp)
              · rw [if_neg c23] at H
                have c23b0 : decide (a1 < 0) = false := decide_eq_false c23
                clear c23
                by_cases c28 : a1 = 0
                · rw [if_pos c28] at H
                  have c28b0 : (a1 == 0) = true := beq_iff_eq.mpr c28
                  have c28b1 : (a1 != 0) = false := bne_eq_false_iff_eq.mpr c28
                  clear c28
                  by_cases c29 : t660 = 0
                  · rw [if_pos c29] at H
                    have c29b0 : (t660 == 0) = true := beq_iff_eq.mpr c29
                    have c29b1 : (t660 != 0) = false := bne_eq_false_iff_eq.mpr c29
                    clear c29
                    by_cases c30 : t661 = 0
                    · rw [if_pos c30] at H
                      have c30b0 : (t661 == 0) = true := beq_iff_eq.mpr c30
                      have c30b1 : (t661 != 0) = false := bne_eq_false_iff_eq.mpr c30
                      clear c30
                      replace H := Option.bind_eq_some_iff.mp H
                      obtain ⟨t663, A310, H⟩ := H
                      replace H : (some t663) = some r := H
                      have A31 := Aside0.mk A310
                      clear A310
                      obtain rfl := Option.some.inj H
                      go_wp2_with (first | ((with_reducible refine gate_callee (f := 50) rfl ?_); refine goesL_ (some 36) rfl rfl Try.func50 (by kernel_rfl) rfl #[.int .i64 a1] rfl (by (try simp only [List.map_toArray, List.map_cons, List.map_nil]); first | done | rfl | (simp only [List.length_drop, List.length_take]; rfl)) ?_; (with_reducible refine (stuff_Most.calls a1 t660 t661 _ A22.out).mono ?_); rintro e w' ⟨rfl, ⟨nd, rfl⟩⟩; refine ⟨_, rfl, ?_⟩) | (go_at_call 45; (with_reducible refine (magnetolaw05_awake.calls kj11  t663 _ A31.out).mono ?_); rintro e w32 ⟨rfl, hb⟩; have n0_ := Aside0.mk (below_step (by repeat (first | (with_reducible first | exact HB.out | apply below_alloc | apply pw_below_drewN | apply below_drew1) | exact HB.out)) hb); clear HB; have HB := n0_; clear n0_; (try clear hb); (try clear hb2); (try clear hk); (try clear hi)))
                      go_ret
                      exact ⟨by first | rfl | (simp [errW_none, errW_some] <;> rfl) | (simp [*, errW_none, errW_some] <;> rfl), by repeat (first | (with_reducible first | exact HB.out | apply below_alloc | apply pw_below_drewN | apply below_drew1) | exact HB.out)⟩
                    · rw [if_neg c30] at H
                      exact absurd H (by simp)
                  · rw [if_neg c29] at H
                    exact absurd H (by simp)
                · rw [if_neg c28] at H
                  have c28b0 : (a1 == 0) = false := beq_eq_false_iff_ne.mpr c28
                  have c28b1 : (a1 != 0) = true := bne_iff_ne.mpr c28
                  by_cases c33 : t660 = (wrap64 (Int.tdiv (wrap64 (a1 - 1)) 4))
                  · rw [if_pos c33] at H
                    have c33b0 : (t660 == (wrap64 (Int.tdiv (wrap64 (a1 - 1)) 4))) = true := beq_iff_eq.mpr c33
                    have c33b1 : (t660 != (wrap64 (Int.tdiv (wrap64 (a1 - 1)) 4))) = false := bne_eq_false_iff_eq.mpr c33
                    clear c33
                    by_cases c34 : t661 = 0
                    · rw [if_pos c34] at H
                      have c34b0 : (t661 == 0) = true := beq_iff_eq.mpr c34
                      have c34b1 : (t661 != 0) = false := bne_eq_false_iff_eq.mpr c34
                      clear c34
                      replace H := Option.bind_eq_some_iff.mp H
                      obtain ⟨t664, A350, H⟩ := H
                      replace H : (some t664) = some r := H
                      have A35 := Aside0.mk A350
                      clear A350
                      obtain rfl := Option.some.inj H
                      go_wp2_with (first | ((with_reducible refine gate_callee (f := 50) rfl ?_); refine goesL_ (some 36) rfl rfl Try.func50 (by kernel_rfl) rfl #[.int .i64 a1] rfl (by (try simp only [List.map_toArray, List.map_cons, List.map_nil]); first | done | rfl | (simp only [List.length_drop, List.length_take]; rfl)) ?_; (with_reducible refine (stuff_Most.calls a1 t660 t661 _ A22.out).mono ?_); rintro e w' ⟨rfl, ⟨nd, rfl⟩⟩; refine ⟨_, rfl, ?_⟩) | (go_at_call 45; (with_reducible refine (magnetolaw05_awake.calls kj11  t664 _ A35.out).mono ?_); rintro e w36 ⟨rfl, hb⟩; have n0_ := Aside0.mk (below_step (by repeat (first | (with_reducible first | exact HB.out | apply below_alloc | apply pw_below_drewN | apply below_drew1) | exact HB.out)) hb); clear HB; have HB := n0_; clear n0_; (try clear hb); (try clear hb2); (try clear hk); (try clear hi)))
                      go_ret
                      exact ⟨by first | rfl | (simp [errW_none, errW_some] <;> rfl) | (simp [*, errW_none, errW_some] <;> rfl), by repeat (first | (with_reducible first | exact HB.out | apply below_alloc | apply pw_below_drewN | apply below_drew1) | exact HB.out)⟩
                    · rw [if_neg c34] at H
                      exact absurd H (by simp)
                  · rw [if_neg c33] at H
                    exact absurd H (by simp)

/-- THE ONE PURE STATEMENT of magnetolaw05_StuffAdds: yours. -/
def magnetolaw05_StuffAdds.Pure : Prop := ∀ (l0 : List Int) (a1 : Int), l0.length ≤ maxLen → l0.length * 8 ≤ 140737488351232 → (∀ x ∈ l0, (Lit.int .i64 x).wf = true) → (Lit.int .i64 a1).wf = true → ∃ k, magnetolaw05_StuffAdds.f k l0 a1 = some true
theorem magnetolaw05_StuffAdds.walk (P : magnetolaw05_StuffAdds.Pure) (a0 : Option Addr) (len0 cap0 : Nat) (z0 : List Int) (a1 : Int) (w : World) (w0 : (a0 = none ∧ len0 = 0 ∧ cap0 = 0 ∧ z0 = []) ∨ ∃ x, a0 = some x ∧ len0 ≤ cap0 ∧ cap0 ≤ maxLen ∧ z0.length = cap0 ∧ (∀ i, i < z0.length → w.cell? (x.add i) = some (.int .i64 (z0.getD i 0))) ∧ ∀ n ∈ z0, (Lit.int .i64 n).wf = true) (y0 : len0 * 8 ≤ 140737488351232) (w1 : (Lit.int .i64 a1).wf = true) :
    Calls Try.prog 15 #[.slice a0 len0 cap0, .int .i64 a1] w fun e w' => e = .returned (.bool true) ∧ Below w.heap.size w w' := by
  obtain ⟨l0, rfl, hr0, hm0, hw0, hc0⟩ := ReadsInt.ofRowC w0
  obtain ⟨k, h⟩ := P l0 a1 hm0 y0 hw0 w1
  refine (magnetolaw05_StuffAdds.calls k _ _ l0 a1 true w (Kd.C_of_reads (d := (0 : Int)) (h1 := fun _ => rfl) hr0) hc0 h).mono ?_
  rintro e w' ⟨rfl, hd⟩
  exact ⟨rfl, hd⟩

end Go.Proofs.Ytclmogjmmcjppaa.PA
