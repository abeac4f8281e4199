/- Functions of the program, in plain Lean, and their walks (printed; half the indent). Conditions: none. -/
-- PRINTED by print.py (a twelfth state) out of the translation. Not trusted: Lean checks it.
import Derived.Test.YtipflkbpjnacnaaPAx0
import Derived.Test.YtipflkbpjnacnaaPAx4
namespace Go.Proofs.Ytipflkbpjnacnaa.PA
open Go.RowKit Go.Proofs.YtipflkbpjnacnaaW.PrintWords Go.Proofs.YtipflkbpjnacnaaW.PrintLast Go.Proofs.YtipflkbpjnacnaaW.PrintMore
attribute [local go_sem] max2_int min2_int max_two min_two max_three min_three max_four min_four   -- for this text's walks alone
set_option linter.unusedVariables false
set_option linter.unusedSimpArgs false

/-! ### bits_Of: function 35 -/
mutual
def bits_Of.j0 : Nat → Int → Int → Bool → Option (List Int × Int)
 | 0, _, _, _ => none
 | k + 1, x0, x1, x13 => if x13 = true then (some (([] : List Int), 10)) else (if 0 ≤ x1 then (if (x1 : Int).toNat ≤ 35184372088832 then (bits_Of.l0 k x0 x1 (List.replicate (x1 : Int).toNat 0) x1 0) else (none)) else (none))
def bits_Of.l0 : Nat → Int → Int → List Int → Int → Int → Option (List Int × Int)
 | 0, _, _, _, _, _ => none
 | k + 1, x0, x1, x6, x16, x17 => if x17 < x16 then (if 0 ≤ x17 then (if 0 ≤ (wrap64 ((wrap64 (x1 - 1)) - x17)) then (if (wrap64 ((wrap64 (x1 - 1)) - x17)) < (x6.length : Int) then (bits_Of.l0 k x0 x1 (x6.set ((wrap64 ((wrap64 (x1 - 1)) - x17)) : Int).toNat (wrap64 (Go.bits .and .u64 (shr .u64 x0 x17) 1))) x16 (wrap64 (x17 + 1))) else (none)) else (none)) else (none)) else (some (x6, 0))
end
def bits_Of.f (k : Nat) (a0 : Int) (a1 : Int) : Option (List Int × Int) := if a1 < 0 then (bits_Of.j0 k a0 a1 true) else (bits_Of.j0 k a0 a1 (decide (a1 > 64)))
theorem bits_Of.mono_l : ∀ k, (∀ y0 y1 y2, LeO (bits_Of.j0 k y0 y1 y2) (bits_Of.j0 (k + 1) y0 y1 y2)) ∧ (∀ y0 y1 y2 y3 y4, LeO (bits_Of.l0 k y0 y1 y2 y3 y4) (bits_Of.l0 (k + 1) y0 y1 y2 y3 y4))
 | 0 => ⟨fun _ _ _ r h => by simp [bits_Of.j0] at h, fun _ _ _ _ _ r h => by simp [bits_Of.l0] at h⟩
 | k + 1 => by
  obtain ⟨ih0, ih1⟩ := bits_Of.mono_l k
  refine ⟨?_, ?_⟩
  ·
   intro y0 y1 y2
   unfold bits_Of.j0
   repeat' first
   | (with_reducible exact ih0 _ _ _)
   | (with_reducible exact ih1 _ _ _ _ _)
   | (with_reducible exact LeO.refl _)
   | (with_reducible exact LeO.none _)
   | (with_reducible refine LeO.ite ?_ ?_)
   | (with_reducible refine LeO.bind ?_ (fun _ => ?_))
   | exact ih0 _ _ _
   | exact ih1 _ _ _ _ _
   | exact LeO.none _
   | refine LeO.ite ?_ ?_
   | refine LeO.bind ?_ (fun _ => ?_)
  ·
   intro y0 y1 y2 y3 y4
   unfold bits_Of.l0
   repeat' first
   | (with_reducible exact ih0 _ _ _)
   | (with_reducible exact ih1 _ _ _ _ _)
   | (with_reducible exact LeO.refl _)
   | (with_reducible exact LeO.none _)
   | (with_reducible refine LeO.ite ?_ ?_)
   | (with_reducible refine LeO.bind ?_ (fun _ => ?_))
   | exact ih0 _ _ _
   | exact ih1 _ _ _ _ _
   | exact LeO.none _
   | refine LeO.ite ?_ ?_
   | refine LeO.bind ?_ (fun _ => ?_)
theorem bits_Of.mono : ∀ a0 a1 k, LeO (bits_Of.f k a0 a1) (bits_Of.f (k + 1) a0 a1) := by
 intro a0 a1 k
 obtain ⟨ih0, ih1⟩ := bits_Of.mono_l k
 unfold bits_Of.f
 repeat' first
   | (with_reducible exact ih0 _ _ _)
   | (with_reducible exact ih1 _ _ _ _ _)
   | (with_reducible exact LeO.refl _)
   | (with_reducible exact LeO.none _)
   | (with_reducible refine LeO.ite ?_ ?_)
   | (with_reducible refine LeO.bind ?_ (fun _ => ?_))
   | exact ih0 _ _ _
   | exact ih1 _ _ _ _ _
   | exact LeO.none _
   | refine LeO.ite ?_ ?_
   | refine LeO.bind ?_ (fun _ => ?_)
set_option maxHeartbeats 8000000 in
set_option maxRecDepth 100000 in
theorem bits_Of.calls (k : Nat) (a0 : Int) (a1 : Int) (r1 : List Int) (r2 : Int) (w : World) (h : bits_Of.f k a0 a1 = some (r1, r2)) :
  Calls Try.prog 35 #[.int .u64 a0, .int .i64 a1] w fun e w' => ∃ v0_ : Value, e = .returned (.tuple #[v0_, .int .i64 r2]) ∧ Kd.R (Kd.int .i64) 3 w' w.heap.size (fun _ => True) v0_ r1 ∧ Below w.heap.size w w' := by
 have HB := Aside0.mk (Below.refl w.heap.size w)
 have H : (if a1 < 0 then (bits_Of.j0 k a0 a1 true) else (bits_Of.j0 k a0 a1 (decide (a1 > 64)))) = some (r1, r2) := h
 clear h
 have HC3 := Aside0.mk H
 clear H
 go_enter Try.func35, Try.ntmps35
 go_upto_region 1 with (fail)
 go_cut [13] (fun v13 wc => ∃ (kq : Nat) (x13_2 : Bool), v13 = .bool x13_2 ∧ Aside0 (bits_Of.j0 kq a0 a1 x13_2 = some (r1, r2)) ∧ Aside0 (kq ≤ k) ∧ Aside0 (Below w.heap.size w wc))
 case first =>
  have H := HC3.out
  clear HC3
  by_cases c4 : a1 < 0
  ·
   rw [if_pos c4] at H
   have c4b0 : decide (a1 < 0) = true := decide_eq_true c4
   clear c4
   (first | rw [c4b0] | (simp only [i64_w, i32_w]; rw [c4b0]) | skip)
   have H' := Aside0.mk H
   clear H
   go_wp2
   go_meet
   case rel => exact ⟨_, (true), (by first | rfl | (rw [Int.tdiv_eq_ediv_of_nonneg (by assumption)]; done) | (simp; done) | (simp [*]; done)), H', ⟨by first | omega | exact Nat.le_refl _⟩, ⟨by repeat (first | (with_reducible first | exact HB.out | apply below_alloc | apply pw_below_drewN | apply below_drew1) | exact HB.out)⟩⟩
  ·
   rw [if_neg c4] at H
   have c4b0 : decide (a1 < 0) = false := decide_eq_false c4
   clear c4
   (first | rw [c4b0] | (simp only [i64_w, i32_w]; rw [c4b0]) | skip)
   have H' := Aside0.mk H
   clear H
   go_wp2
   go_meet
   case rel => exact ⟨_, (decide (a1 > 64)), (by first | rfl | (rw [Int.tdiv_eq_ediv_of_nonneg (by assumption)]; done) | (simp; done) | (simp [*]; done)), H', ⟨by first | omega | exact Nat.le_refl _⟩, ⟨by repeat (first | (with_reducible first | exact HB.out | apply below_alloc | apply pw_below_drewN | apply below_drew1) | exact HB.out)⟩⟩
 case rest =>
  clear HC3
  try clear p2
  try clear c3
  try clear c4
  try clear c4b0
  obtain ⟨kq, x13_2, rfl, HA, HJ2, HB⟩ := hcut
  cases kq with
  | zero => exact absurd HA.out (by simp [bits_Of.j0])
  | succ kj2 =>
   have H := HA.out
   clear HA
   simp only [bits_Of.j0] at H
   by_cases c5 : x13_2 = true
   ·
    subst c5
    have H1 : (some (([] : List Int), 10)) = some (r1, r2) := by rw [if_pos rfl] at H; exact H
    clear H
    have H := H1
    clear H1
    simp only [Option.some.injEq, Prod.mk.injEq] at H
    obtain ⟨rfl, rfl⟩ := H
    go_wp2
    go_ret2
    exact ⟨_, by first | rfl | (rw [Int.tdiv_eq_ediv_of_nonneg (by assumption)]; done) | (simp [errW_none, errW_some] <;> rfl) | (simp [*, errW_none, errW_some] <;> rfl), by first | exact Kd.R_nil _ _ _ _ _ | exact Kd.N_nil _ _ _ _ _ | exact Kd.V_nil _ _ _ _ _ | exact Kd.Q_nil _ _ _ _ _ | exact Kd.S_nil _ _ _ _ _, by repeat (first | (with_reducible first | exact HB.out | apply below_alloc | apply pw_below_drewN | apply below_drew1) | exact HB.out)⟩
   ·
    replace c5 := Bool.eq_false_iff.mpr c5
    subst c5
    have H1 : (if 0 ≤ a1 then (if (a1 : Int).toNat ≤ 35184372088832 then (bits_Of.l0 kj2 a0 a1 (List.replicate (a1 : Int).toNat 0) a1 0) else (none)) else (none)) = some (r1, r2) := by rw [if_neg (show ¬ (false = true) by decide)] at H; exact H
    clear H
    have H := H1
    clear H1
    by_cases c6 : 0 ≤ a1
    ·
     rw [if_pos c6] at H
     have c6b0 := eq_true c6
     have c6b1 : decide (0 ≤ a1) = true := decide_eq_true c6
     clear c6
     by_cases c7 : (a1 : Int).toNat ≤ 35184372088832
     ·
      rw [if_pos c7] at H
      have c7b0 := eq_true c7
      have c7b1 : decide ((a1 : Int).toNat ≤ 35184372088832) = true := decide_eq_true c7
      clear c7
      obtain ⟨y154, hy154⟩ : ∃ y_ : List Int, y_ = (List.replicate (a1 : Int).toNat 0) := ⟨_, rfl⟩
      replace H : (bits_Of.l0 kj2 a0 a1 y154 a1 0) = some (r1, r2) := by first | (rw [hy154]; with_reducible exact H) | (have H2_ := (Option.bind_some _ _).symm.trans H; rw [hy154]; with_reducible exact H2_) | (have H2_ := (Option.bind_some _ _).symm.trans H; with_reducible exact H2_) | with_reducible exact H | (rw [hy154]; exact H) | exact H
      have Ny154 := Aside0.mk hy154
      clear hy154
      have H' := Aside0.mk H
      clear H
      go_wp2_with (first | ((with_reducible refine gate_dst (N := 15) rfl ?_); refine Kd.R_make (Kd.int .i64) _ 3 rfl (N := 15) rfl 22 _ _ rfl a1 rfl rfl Try.underlying22 (.int .i64 0) 8 info3 rfl (by decide) (by omega) 0 (ok := fun _ => True) (okp := fun _ => True) rfl (fun _ hk => hk) trivial (of_decide_eq_true (by first | (with_reducible assumption) | assumption)) (Nat.le_trans (Nat.mul_le_mul_right _ (of_decide_eq_true (by first | (with_reducible assumption) | assumption) : a1.toNat ≤ 35184372088832)) (by omega)) (Below.refl _ _) (Nat.le_refl _) ?_; intro v155 w8 ho9 hb hg_ hnew_; clear hg_ hnew_; (first | rw [← Ny154.out] at ho9 | (simp only [Int.reduceToNat] at ho9; rw [← Ny154.out] at ho9)); have n0_ := Aside0.mk (Kd.R_lower ho9 (below_size (by repeat (first | (with_reducible first | exact HB.out | apply below_alloc | apply pw_below_drewN | apply below_drew1) | exact HB.out)))); have n1_ := Aside0.mk (below_step (by repeat (first | (with_reducible first | exact HB.out | apply below_alloc | apply pw_below_drewN | apply below_drew1) | exact HB.out)) hb); clear HB; have HO156 := n0_; have HB := n1_; clear n0_ n1_; clear hb ho9))
      go_loopg [17] kj2 (fun kq v17 w' => ∃ (x6_2 : List Int) (x17_2 : Int), v17 = .int .i64 x17_2 ∧ Aside0 (bits_Of.l0 kq a0 a1 x6_2 a1 x17_2 = some (r1, r2)) ∧ Aside0 (kq ≤ kj2) ∧ Aside0 (Kd.R (Kd.int .i64) 3 w' w.heap.size (fun _ => True) v155 x6_2) ∧ Aside0 (Below w.heap.size w w'))
      case atStart => exact ⟨(y154), (0), (by first | rfl | (rw [Int.tdiv_eq_ediv_of_nonneg (by assumption)]; done) | (simp; done) | (simp [*]; done)), H', ⟨Nat.le_refl _⟩, ⟨by (with_reducible repeat (first | apply Kd.R_alloc | apply Kd.R_drewN | apply Kd.R_drew)); exact HO156.out⟩, ⟨by repeat (first | (with_reducible first | exact HB.out | apply below_alloc | apply pw_below_drewN | apply below_drew1) | exact HB.out)⟩⟩
      case round =>
       clear H'
       try clear p2
       try clear c3
       try clear c4
       try clear c4b0
       try clear c5
       try clear c6
       try clear c6b0
       try clear c6b1
       try clear c7
       try clear c7b0
       try clear c7b1
       try clear p2
       obtain ⟨x6_2, x17_2, rfl, HA, HK2, HO_6, HB⟩ := hrel
       cases gk with
       | zero => exact absurd HA.out (by simp [bits_Of.l0])
       | succ k2 =>
        have H := HA.out
        clear HA
        simp only [bits_Of.l0] at H
        by_cases c10 : x17_2 < a1
        ·
         rw [if_pos c10] at H
         have c10b0 : decide (x17_2 < a1) = true := decide_eq_true c10
         clear c10
         by_cases c11 : 0 ≤ x17_2
         ·
          rw [if_pos c11] at H
          have c11b0 := eq_true c11
          have c11b1 : decide (0 ≤ x17_2) = true := decide_eq_true c11
          clear c11
          obtain ⟨ji12, hji12⟩ : ∃ j_ : Int, (shr .u64 a0 x17_2) = j_ := ⟨_, rfl⟩
          replace H : (if 0 ≤ (wrap64 ((wrap64 (a1 - 1)) - x17_2)) then (if (wrap64 ((wrap64 (a1 - 1)) - x17_2)) < (x6_2.length : Int) then (bits_Of.l0 k2 a0 a1 (x6_2.set ((wrap64 ((wrap64 (a1 - 1)) - x17_2)) : Int).toNat (wrap64 (Go.bits .and .u64 (ji12) 1))) a1 (wrap64 (x17_2 + 1))) else (none)) else (none)) = some (r1, r2) := by first | (rw [hji12] at H; exact H) | (simp only [hji12] at H ⊢; exact H)
          have hji12_ : (a0 / 2 ^ min x17_2.toNat 64) = ji12 := hji12
          have hji12z : x17_2 ≤ 64 → (a0 / 2 ^ x17_2.toNat) = ji12 := shr_small hji12
          obtain ⟨ji13, hji13⟩ : ∃ j_ : Int, (wrap64 ((wrap64 (a1 - 1)) - x17_2)) = j_ := ⟨_, rfl⟩
          replace H : (if 0 ≤ (ji13) then (if (ji13) < (x6_2.length : Int) then (bits_Of.l0 k2 a0 a1 (x6_2.set ((ji13) : Int).toNat (wrap64 (Go.bits .and .u64 (ji12) 1))) a1 (wrap64 (x17_2 + 1))) else (none)) else (none)) = some (r1, r2) := by first | (rw [hji13] at H; exact H) | (simp only [hji13] at H ⊢; exact H)
          have hji13w : (IntKind.i64.wrap ((wrap64 (a1 - 1)) - x17_2)) = ji13 := (i64_w _).trans hji13
          by_cases c14 : 0 ≤ (ji13)
          ·
           rw [if_pos c14] at H
           have c14b0 : decide (0 ≤ (ji13)) = true := decide_eq_true c14
           clear c14
           by_cases c15 : (ji13) < (x6_2.length : Int)
           ·
            rw [if_pos c15] at H
            have c15b0 : decide ((ji13) < (x6_2.length : Int)) = true := decide_eq_true c15
            clear c15
            obtain ⟨y157, hy157⟩ : ∃ y_ : List Int, y_ = (x6_2.set ((ji13) : Int).toNat (wrap64 (Go.bits .and .u64 (ji12) 1))) := ⟨_, rfl⟩
            replace H : (bits_Of.l0 k2 a0 a1 y157 a1 (wrap64 (x17_2 + 1))) = some (r1, r2) := by first | (rw [hy157]; with_reducible exact H) | (have H2_ := (Option.bind_some _ _).symm.trans H; rw [hy157]; with_reducible exact H2_) | (have H2_ := (Option.bind_some _ _).symm.trans H; with_reducible exact H2_) | with_reducible exact H | (rw [hy157]; exact H) | exact H
            have Ny157 := Aside0.mk hy157
            clear hy157
            have H' := Aside0.mk H
            clear H
            have p16 : 0 ≤ ((ji13) : Int) := of_decide_eq_true (by first | (with_reducible assumption) | assumption)
            have q16 : ((ji13) : Int) < ((x6_2.length : Int) : Int) := of_decide_eq_true (by first | (with_reducible assumption) | assumption)
            obtain ⟨go16, co16, eo16, gb16, gl16, cl16, HG16⟩ := Kd.R_form HO_6.out (by omega)
            (first | cases eo16 | (injection eo16 with ea_ en_ ec_; (first | subst ea_ | (injection ea_ with ea_; subst ea_)); subst ec_; clear en_))
            have GB16 := Aside0.mk gb16
            have GG16 := Aside0.mk HG16
            clear gb16 gl16 HG16
            obtain ⟨hx16_0, hf16_0⟩ := Kd.R_celln 0 HO_6.out ((ji13) : Int) p16 q16
            replace p16 := eq_true p16
            replace q16 := eq_true q16
            have HP17 := Kd.R_putg HO_6.out ((ji13) : Int) (wrap64 (Go.bits .and .u64 (ji12) 1))
            go_wp2_with (first | ((with_reducible refine gate_store (t := 3) (p := 30) rfl ?_); refine store_event (t := 3) (p := 30) (v := ?vo_w18) (w1 := (wr.setCell ⟨go16, ((ji13) : Int).toNat, none⟩ (.int .i64 (wrap64 (Go.bits .and .u64 (ji12) 1))))) ?hg ?ho ?hn ?hr ?_; (case ho => rfl); (case hg => rfl); (case hn => rfl); (case hr => first | (go_simp; done) | (go_simp; rfl)); intro w18 hw; have hg : wr.grownBy w18 (some go16) := (by rw [hw]; exact HP17.2); have hp_ : Kd.R (Kd.int .i64) 3 w18 w.heap.size (fun _ => True) (.slice (some ⟨go16, 0, none⟩) x6_2.length co16) y157 := (by rw [hw, Ny157.out]; exact HP17.1); clear HP17; have n0_ := Aside0.mk (hp_); have n1_ := Aside0.mk ((by rw [hw]; exact below_set (HB.out) GB16.out : Below w.heap.size w w18)); clear HO_6; clear HB; have HO_6 := n0_; have HB := n1_; clear n0_ n1_; clear hg hw hp_))
            go_roundg k2
            case measure => have := HJ2.out; have := HK2.out; omega
            case rel => exact ⟨(y157), (wrap64 (x17_2 + 1)), (by first | rfl | (rw [Int.tdiv_eq_ediv_of_nonneg (by assumption)]; done) | (simp; done) | (simp [*]; done)), H', ⟨by have := HJ2.out; have := HK2.out; omega⟩, ⟨by (with_reducible repeat (first | apply Kd.R_alloc | apply Kd.R_drewN | apply Kd.R_drew)); exact HO_6.out⟩, ⟨by repeat (first | (with_reducible first | exact HB.out | apply below_alloc | apply pw_below_drewN | apply below_drew1) | exact HB.out)⟩⟩
           ·
            rw [if_neg c15] at H
            exact absurd H (by simp)
          ·
           rw [if_neg c14] at H
           exact absurd H (by simp)
         ·
          rw [if_neg c11] at H
          exact absurd H (by simp)
        ·
         rw [if_neg c10] at H
         have c10b0 : decide (x17_2 < a1) = false := decide_eq_false c10
         clear c10
         simp only [Option.some.injEq, Prod.mk.injEq] at H
         obtain ⟨rfl, rfl⟩ := H
         go_wp2
         go_ret2
         exact ⟨_, by first | rfl | (rw [Int.tdiv_eq_ediv_of_nonneg (by assumption)]; done) | (simp [errW_none, errW_some] <;> rfl) | (simp [*, errW_none, errW_some] <;> rfl), by (with_reducible repeat (first | apply Kd.R_alloc | apply Kd.R_drewN | apply Kd.R_drew)); exact HO_6.out, by repeat (first | (with_reducible first | exact HB.out | apply below_alloc | apply pw_below_drewN | apply below_drew1) | exact HB.out)⟩
     ·
      rw [if_neg c7] at H
      exact absurd H (by simp)
    ·
     rw [if_neg c6] at H
     exact absurd H (by simp)

/-! ### crc15_Bits: function 24 -/
def crc15_Bits.f (k : Nat) (a0 : Int) : Option (List Int × Int) := (crc15_may.f a0).bind fun t158 => (if t158 = true then ((bits_Of.f k (IntKind.u64.wrap (a0)) 15).bind fun bt159 => (some (bt159.1, bt159.2))) else (some (([] : List Int), 10)))
theorem crc15_Bits.mono : ∀ a0 k, LeO (crc15_Bits.f k a0) (crc15_Bits.f (k + 1) a0) := by
 intro a0 k
 unfold crc15_Bits.f
 repeat' first
   | (with_reducible exact bits_Of.mono _ _ _)
   | (with_reducible exact LeO.refl _)
   | (with_reducible exact LeO.none _)
   | (with_reducible refine LeO.ite ?_ ?_)
   | (with_reducible refine LeO.bind ?_ (fun _ => ?_))
   | exact bits_Of.mono _ _ _
   | exact LeO.none _
   | refine LeO.ite ?_ ?_
   | refine LeO.bind ?_ (fun _ => ?_)
set_option maxHeartbeats 8000000 in
set_option maxRecDepth 100000 in
theorem crc15_Bits.calls (k : Nat) (a0 : Int) (r1 : List Int) (r2 : Int) (w : World) (h : crc15_Bits.f k a0 = some (r1, r2)) :
  Calls Try.prog 24 #[.int .i64 a0] w fun e w' => ∃ v0_ : Value, e = .returned (.tuple #[v0_, .int .i64 r2]) ∧ Kd.R (Kd.int .i64) 3 w' w.heap.size (fun _ => True) v0_ r1 ∧ Below w.heap.size w w' := by
 have HB := Aside0.mk (Below.refl w.heap.size w)
 have H : ((crc15_may.f a0).bind fun t158 => (if t158 = true then ((bits_Of.f k (IntKind.u64.wrap (a0)) 15).bind fun bt159 => (some (bt159.1, bt159.2))) else (some (([] : List Int), 10)))) = some (r1, r2) := h
 clear h
 replace H := Option.bind_eq_some_iff.mp H
 obtain ⟨t158, A20, H⟩ := H
 replace H : (if t158 = true then ((bits_Of.f k (IntKind.u64.wrap (a0)) 15).bind fun bt159 => (some (bt159.1, bt159.2))) else (some (([] : List Int), 10))) = some (r1, r2) := H
 have A2 := Aside0.mk A20
 clear A20
 by_cases c3 : t158 = true
 ·
  subst c3
  have H1 : ((bits_Of.f k (IntKind.u64.wrap (a0)) 15).bind fun bt159 => (some (bt159.1, bt159.2))) = some (r1, r2) := by rw [if_pos rfl] at H; exact H
  clear H
  have H := H1
  clear H1
  replace H := Option.bind_eq_some_iff.mp H
  obtain ⟨⟨t159, t160⟩, A40, H⟩ := H
  replace H : (some (t159, t160)) = some (r1, r2) := H
  have A4 := Aside0.mk A40
  clear A40
  simp only [Option.some.injEq, Prod.mk.injEq] at H
  obtain ⟨rfl, rfl⟩ := H
  go_enter Try.func24, Try.ntmps24
  go_wp2_with (first | ((with_reducible refine gate_callee (f := 57) rfl ?_); refine goesL_ (some 5) rfl rfl Try.func57 (by kernel_rfl) rfl #[.int .i64 a0] rfl (by (try simp only [List.map_toArray, List.map_cons, List.map_nil]); first | done | rfl | (simp only [List.length_drop, List.length_take]; rfl)) ?_; (with_reducible refine (crc15_may.calls a0 true _ A2.out).mono ?_); rintro e w' ⟨rfl, ⟨nd, rfl⟩⟩; refine ⟨_, rfl, ?_⟩) | ((with_reducible refine gate_callee (f := 35) rfl ?_); refine goesL_ (some 9) rfl rfl Try.func35 (by kernel_rfl) rfl #[.int .u64 (IntKind.u64.wrap (a0)), .int .i64 15] rfl (by (try simp only [List.map_toArray, List.map_cons, List.map_nil]); first | done | rfl | (simp only [List.length_drop, List.length_take]; rfl)) ?_; (with_reducible refine (bits_Of.calls k (IntKind.u64.wrap (a0)) 15 t159 t160 _ A4.out).mono ?_); rintro e w5 ⟨v161, rfl, ho0, hb⟩; refine ⟨_, rfl, ?_⟩; have n0_ := Aside0.mk (Kd.R_lower ho0 (below_size (by repeat (first | (with_reducible first | exact HB.out | apply below_alloc | apply pw_below_drewN | apply below_drew1) | exact HB.out)))); have n1_ := Aside0.mk (below_step (by repeat (first | (with_reducible first | exact HB.out | apply below_alloc | apply pw_below_drewN | apply below_drew1) | exact HB.out)) hb); clear HB; have HO162 := n0_; have HB := n1_; clear n0_ n1_; (try clear hb); (try clear hb2); (try clear hk); (try clear hi); (try clear ho0)))
  go_ret2
  exact ⟨_, by first | rfl | (simp [errW_none, errW_some] <;> rfl) | (simp [*, errW_none, errW_some] <;> rfl), by (with_reducible repeat (first | apply Kd.R_alloc | apply Kd.R_drewN | apply Kd.R_drew)); exact HO162.out, by repeat (first | (with_reducible first | exact HB.out | apply below_alloc | apply pw_below_drewN | apply below_drew1) | exact HB.out)⟩
 ·
  replace c3 := Bool.eq_false_iff.mpr c3
  subst c3
  have H1 : (some (([] : List Int), 10)) = some (r1, r2) := by rw [if_neg (show ¬ (false = true) by decide)] at H; exact H
  clear H
  have H := H1
  clear H1
  simp only [Option.some.injEq, Prod.mk.injEq] at H
  obtain ⟨rfl, rfl⟩ := H
  go_enter Try.func24, Try.ntmps24
  go_wp2_with (first | ((with_reducible refine gate_callee (f := 57) rfl ?_); refine goesL_ (some 5) rfl rfl Try.func57 (by kernel_rfl) rfl #[.int .i64 a0] rfl (by (try simp only [List.map_toArray, List.map_cons, List.map_nil]); first | done | rfl | (simp only [List.length_drop, List.length_take]; rfl)) ?_; (with_reducible refine (crc15_may.calls a0 false _ A2.out).mono ?_); rintro e w' ⟨rfl, ⟨nd, rfl⟩⟩; refine ⟨_, rfl, ?_⟩))
  go_ret2
  exact ⟨_, by first | rfl | (simp [errW_none, errW_some] <;> rfl) | (simp [*, errW_none, errW_some] <;> rfl), by first | exact Kd.R_nil _ _ _ _ _ | exact Kd.N_nil _ _ _ _ _ | exact Kd.V_nil _ _ _ _ _ | exact Kd.Q_nil _ _ _ _ _ | exact Kd.S_nil _ _ _ _ _, by repeat (first | (with_reducible first | exact HB.out | apply below_alloc | apply pw_below_drewN | apply below_drew1) | exact HB.out)⟩

/-! ### magnetolaw02_ints: function 25 -/
def magnetolaw02_ints.l0 : Nat → List Int → List Int → Int → Option (Bool)
 | 0, _, _, _ => none
 | k + 1, x0, x1, x5 => if x5 < (x0.length : Int) then (if 0 ≤ x5 then (if x5 < (x1.length : Int) then (if (rd x0 x5) = (rd x1 x5) then (magnetolaw02_ints.l0 k x0 x1 (wrap64 (x5 + 1))) else (some false)) else (none)) else (none)) else (some true)
def magnetolaw02_ints.f (k : Nat) (l0 : List Int) (l1 : List Int) : Option (Bool) := if (l0.length : Int) = (l1.length : Int) then (magnetolaw02_ints.l0 k l0 l1 0) else (some false)
theorem magnetolaw02_ints.mono_l : ∀ k, (∀ y0 y1 y2, LeO (magnetolaw02_ints.l0 k y0 y1 y2) (magnetolaw02_ints.l0 (k + 1) y0 y1 y2))
 | 0 => fun _ _ _ r h => by simp [magnetolaw02_ints.l0] at h
 | k + 1 => by
  have ih0 := magnetolaw02_ints.mono_l k
  ·
   intro y0 y1 y2
   unfold magnetolaw02_ints.l0
   repeat' first
   | (with_reducible exact ih0 _ _ _)
   | (with_reducible exact LeO.refl _)
   | (with_reducible exact LeO.none _)
   | (with_reducible refine LeO.ite ?_ ?_)
   | (with_reducible refine LeO.bind ?_ (fun _ => ?_))
   | exact ih0 _ _ _
   | exact LeO.none _
   | refine LeO.ite ?_ ?_
   | refine LeO.bind ?_ (fun _ => ?_)
theorem magnetolaw02_ints.mono : ∀ a0 a1 k, LeO (magnetolaw02_ints.f k a0 a1) (magnetolaw02_ints.f (k + 1) a0 a1) := by
 intro a0 a1 k
 have ih0 := magnetolaw02_ints.mono_l k
 unfold magnetolaw02_ints.f
 repeat' first
   | (with_reducible exact ih0 _ _ _)
   | (with_reducible exact LeO.refl _)
   | (with_reducible exact LeO.none _)
   | (with_reducible refine LeO.ite ?_ ?_)
   | (with_reducible refine LeO.bind ?_ (fun _ => ?_))
   | exact ih0 _ _ _
   | exact LeO.none _
   | refine LeO.ite ?_ ?_
   | refine LeO.bind ?_ (fun _ => ?_)
set_option maxHeartbeats 8000000 in
set_option maxRecDepth 100000 in
theorem magnetolaw02_ints.calls (k : Nat) (A0 : Option Addr) (c0 : Nat) (l0 : List Int) (A1 : Option Addr) (c1 : Nat) (l1 : List Int) (r : Bool) (w : World) (hr0 : Kd.C (Kd.int .i64) w A0 l0.length l0) (hc0 : l0.length ≤ c0) (hr1 : Kd.C (Kd.int .i64) w A1 l1.length l1) (hc1 : l1.length ≤ c1) (h : magnetolaw02_ints.f k l0 l1 = some r) :
  Calls Try.prog 25 #[.slice A0 l0.length c0, .slice A1 l1.length c1] w fun e w' => e = .returned (.bool r) ∧ Drawn0 w w' := by
 have HR0 := Aside0.mk hr0
 have HC0 := Aside0.mk hc0
 clear hr0 hc0
 have HR1 := Aside0.mk hr1
 have HC1 := Aside0.mk hc1
 clear hr1 hc1
 have H : (if (l0.length : Int) = (l1.length : Int) then (magnetolaw02_ints.l0 k l0 l1 0) else (some false)) = some r := h
 clear h
 by_cases c3 : (l0.length : Int) = (l1.length : Int)
 ·
  rw [if_pos c3] at H
  have c3b0 : ((l0.length : Int) == (l1.length : Int)) = true := beq_iff_eq.mpr c3
  have c3b1 : ((l0.length : Int) != (l1.length : Int)) = false := bne_eq_false_iff_eq.mpr c3
  have c3b2 : (l0.length == l1.length) = true := by first | simpa using c3 | (simp at c3 ⊢; omega)
  clear c3
  have H' := Aside0.mk H
  clear H
  go_enter Try.func25, Try.ntmps25
  go_wp2
  repeat (go_quiet (fail); try go_wp2)
  go_loopg [5] k (fun kq v5 w' => ∃ (x5_1 : Int), v5 = .int .i64 x5_1 ∧ Aside0 (magnetolaw02_ints.l0 kq l0 l1 x5_1 = some r) ∧ Aside0 (kq ≤ k) ∧ Drawn0 w w')
  case atStart => exact ⟨(0), (by first | rfl | (simp; done) | (simp [*]; done)), H', ⟨Nat.le_refl _⟩, by repeat (first | exact Drawn0.refl _ | apply Drawn0.step)⟩
  case round =>
   clear H'
   try clear c1
   try clear c2
   try clear p2
   try clear c3
   try clear c3b0
   try clear c3b1
   try clear c3b2
   obtain ⟨x5_1, rfl, HA, HK1, ⟨m1, rfl⟩⟩ := hrel
   cases gk with
   | zero => exact absurd HA.out (by simp [magnetolaw02_ints.l0])
   | succ k1 =>
    have H := HA.out
    clear HA
    simp only [magnetolaw02_ints.l0] at H
    by_cases c4 : x5_1 < (l0.length : Int)
    ·
     rw [if_pos c4] at H
     have c4b0 : decide (x5_1 < (l0.length : Int)) = true := decide_eq_true c4
     clear c4
     by_cases c5 : 0 ≤ x5_1
     ·
      rw [if_pos c5] at H
      have c5b0 : decide (0 ≤ x5_1) = true := decide_eq_true c5
      clear c5
      by_cases c6 : x5_1 < (l1.length : Int)
      ·
       rw [if_pos c6] at H
       have c6b0 : decide (x5_1 < (l1.length : Int)) = true := decide_eq_true c6
       clear c6
       by_cases c7 : (rd l0 x5_1) = (rd l1 x5_1)
       ·
        rw [if_pos c7] at H
        have c7b0 : ((rd l0 x5_1) == (rd l1 x5_1)) = true := beq_iff_eq.mpr c7
        have c7b1 : ((rd l0 x5_1) != (rd l1 x5_1)) = false := bne_eq_false_iff_eq.mpr c7
        clear c7
        have H' := Aside0.mk H
        clear H
        have p163 : 0 ≤ (x5_1 : Int) := of_decide_eq_true (by first | (with_reducible assumption) | assumption)
        have q163 : x5_1 < (l0.length : Int) := of_decide_eq_true (by first | (with_reducible assumption) | assumption)
        obtain ⟨ad163, e163, hx163_0⟩ := Kd.at_int HR0.out x5_1 p163 q163
        cases e163
        replace p163 := eq_true p163
        replace q163 := eq_true q163
        have p164 : 0 ≤ (x5_1 : Int) := of_decide_eq_true (by first | (with_reducible assumption) | assumption)
        have q164 : x5_1 < (l1.length : Int) := of_decide_eq_true (by first | (with_reducible assumption) | assumption)
        obtain ⟨ad164, e164, hx164_0⟩ := Kd.at_int HR1.out x5_1 p164 q164
        cases e164
        replace p164 := eq_true p164
        replace q164 := eq_true q164
        go_wp2
        repeat (go_quiet (fail); try go_wp2)
        go_roundg k1
        case measure => have := HK1.out; omega
        case rel => exact ⟨(wrap64 (x5_1 + 1)), (by first | rfl | (simp; done) | (simp [*]; done)), H', ⟨by have := HK1.out; omega⟩, by repeat (first | exact Drawn0.refl _ | apply Drawn0.step)⟩
       ·
        rw [if_neg c7] at H
        have c7b0 : ((rd l0 x5_1) == (rd l1 x5_1)) = false := beq_eq_false_iff_ne.mpr c7
        have c7b1 : ((rd l0 x5_1) != (rd l1 x5_1)) = true := bne_iff_ne.mpr c7
        obtain rfl := Option.some.inj H
        have p163 : 0 ≤ (x5_1 : Int) := of_decide_eq_true (by first | (with_reducible assumption) | assumption)
        have q163 : x5_1 < (l0.length : Int) := of_decide_eq_true (by first | (with_reducible assumption) | assumption)
        obtain ⟨ad163, e163, hx163_0⟩ := Kd.at_int HR0.out x5_1 p163 q163
        cases e163
        replace p163 := eq_true p163
        replace q163 := eq_true q163
        have p164 : 0 ≤ (x5_1 : Int) := of_decide_eq_true (by first | (with_reducible assumption) | assumption)
        have q164 : x5_1 < (l1.length : Int) := of_decide_eq_true (by first | (with_reducible assumption) | assumption)
        obtain ⟨ad164, e164, hx164_0⟩ := Kd.at_int HR1.out x5_1 p164 q164
        cases e164
        replace p164 := eq_true p164
        replace q164 := eq_true q164
        go_wp2
        repeat (go_quiet (fail); try go_wp2)
        go_ret
        exact ⟨by first | rfl | (simp; done) | (simp [*]; done), by repeat (first | exact Drawn0.refl _ | apply Drawn0.step)⟩
      ·
       rw [if_neg c6] at H
       exact absurd H (by simp)
     ·
      rw [if_neg c5] at H
      exact absurd H (by simp)
    ·
     rw [if_neg c4] at H
     have c4b0 : decide (x5_1 < (l0.length : Int)) = false := decide_eq_false c4
     clear c4
     obtain rfl := Option.some.inj H
     go_wp2
     repeat (go_quiet (fail); try go_wp2)
     go_ret
     exact ⟨by first | rfl | (simp; done) | (simp [*]; done), by repeat (first | exact Drawn0.refl _ | apply Drawn0.step)⟩
 ·
  rw [if_neg c3] at H
  have c3b0 : ((l0.length : Int) == (l1.length : Int)) = false := beq_eq_false_iff_ne.mpr c3
  have c3b1 : ((l0.length : Int) != (l1.length : Int)) = true := bne_iff_ne.mpr c3
  have c3b2 : (l0.length == l1.length) = false := by first | simpa using c3 | (simp at c3 ⊢; omega)
  obtain rfl := Option.some.inj H
  go_enter Try.func25, Try.ntmps25
  go_wp2
  repeat (go_quiet (fail); try go_wp2)
  go_ret
  exact ⟨by first | rfl | (simp; done) | (simp [*]; done), by repeat (first | exact Drawn0.refl _ | apply Drawn0.step)⟩

/-! ### magnetoref02_Of: function 26 -/
def magnetoref02_Of.l0 : Nat → Int → List Int → Int → Option (List Int)
 | 0, _, _, _ => none
 | k + 1, x0, x3, x4 => if x4 ≥ 0 then (if 0 ≤ x4 then (if x4 < (x3.length : Int) then (magnetoref02_Of.l0 k (wrap64 (Int.tdiv x0 2)) (x3.set (x4 : Int).toNat (Int.tmod x0 2)) (wrap64 (x4 - 1))) else (none)) else (none)) else (some x3)
def magnetoref02_Of.f (k : Nat) (a0 : Int) : Option (List Int) := magnetoref02_Of.l0 k a0 (List.replicate 15 0) 14
theorem magnetoref02_Of.mono_l : ∀ k, (∀ y0 y1 y2, LeO (magnetoref02_Of.l0 k y0 y1 y2) (magnetoref02_Of.l0 (k + 1) y0 y1 y2))
 | 0 => fun _ _ _ r h => by simp [magnetoref02_Of.l0] at h
 | k + 1 => by
  have ih0 := magnetoref02_Of.mono_l k
  ·
   intro y0 y1 y2
   unfold magnetoref02_Of.l0
   repeat' first
   | (with_reducible exact ih0 _ _ _)
   | (with_reducible exact LeO.refl _)
   | (with_reducible exact LeO.none _)
   | (with_reducible refine LeO.ite ?_ ?_)
   | (with_reducible refine LeO.bind ?_ (fun _ => ?_))
   | exact ih0 _ _ _
   | exact LeO.none _
   | refine LeO.ite ?_ ?_
   | refine LeO.bind ?_ (fun _ => ?_)
theorem magnetoref02_Of.mono : ∀ a0 k, LeO (magnetoref02_Of.f k a0) (magnetoref02_Of.f (k + 1) a0) := by
 intro a0 k
 have ih0 := magnetoref02_Of.mono_l k
 unfold magnetoref02_Of.f
 repeat' first
   | (with_reducible exact ih0 _ _ _)
   | (with_reducible exact LeO.refl _)
   | (with_reducible exact LeO.none _)
   | (with_reducible refine LeO.ite ?_ ?_)
   | (with_reducible refine LeO.bind ?_ (fun _ => ?_))
   | exact ih0 _ _ _
   | exact LeO.none _
   | refine LeO.ite ?_ ?_
   | refine LeO.bind ?_ (fun _ => ?_)
set_option maxHeartbeats 8000000 in
set_option maxRecDepth 100000 in
theorem magnetoref02_Of.calls (k : Nat) (a0 : Int) (r : List Int) (w : World) (h : magnetoref02_Of.f k a0 = some r) :
  Calls Try.prog 26 #[.int .i64 a0] w fun e w' => ∃ v0_ : Value, e = .returned (v0_) ∧ Kd.R (Kd.int .i64) 3 w' w.heap.size (fun _ => True) v0_ r ∧ Below w.heap.size w w' := by
 have HB := Aside0.mk (Below.refl w.heap.size w)
 have H : (magnetoref02_Of.l0 k a0 (List.replicate 15 0) 14) = some r := h
 clear h
 obtain ⟨y165, hy165⟩ : ∃ y_ : List Int, y_ = (List.replicate 15 0) := ⟨_, rfl⟩
 replace H : (magnetoref02_Of.l0 k a0 y165 14) = some r := by first | (rw [hy165]; with_reducible exact H) | (have H2_ := (Option.bind_some _ _).symm.trans H; rw [hy165]; with_reducible exact H2_) | (have H2_ := (Option.bind_some _ _).symm.trans H; with_reducible exact H2_) | with_reducible exact H | (rw [hy165]; exact H) | exact H
 have Ny165 := Aside0.mk hy165
 clear hy165
 have H' := Aside0.mk H
 clear H
 go_enter Try.func26, Try.ntmps26
 go_wp2_with (first | ((with_reducible refine gate_dst (N := 5) rfl ?_); refine Kd.R_make (Kd.int .i64) _ 3 rfl (N := 5) rfl 22 _ _ rfl 15 rfl rfl Try.underlying22 (.int .i64 0) 8 info3 rfl (by decide) (by omega) 0 (ok := fun _ => True) (okp := fun _ => True) rfl (fun _ hk => hk) trivial (by omega) (by omega) (Below.refl _ _) (Nat.le_refl _) ?_; intro v166 w2 ho3 hb hg_ hnew_; clear hg_ hnew_; (first | rw [← Ny165.out] at ho3 | (simp only [Int.reduceToNat] at ho3; rw [← Ny165.out] at ho3)); have n0_ := Aside0.mk (Kd.R_lower ho3 (below_size (by repeat (first | (with_reducible first | exact HB.out | apply below_alloc | apply pw_below_drewN | apply below_drew1) | exact HB.out)))); have n1_ := Aside0.mk (below_step (by repeat (first | (with_reducible first | exact HB.out | apply below_alloc | apply pw_below_drewN | apply below_drew1) | exact HB.out)) hb); clear HB; have HO167 := n0_; have HB := n1_; clear n0_ n1_; clear hb ho3))
 go_loopg [0, 4] k (fun kq v0 v4 w' => ∃ (x0_1 : Int) (x3_1 : List Int) (x4_1 : Int), v0 = .int .i64 x0_1 ∧ v4 = .int .i64 x4_1 ∧ Aside0 (magnetoref02_Of.l0 kq x0_1 x3_1 x4_1 = some r) ∧ Aside0 (kq ≤ k) ∧ Aside0 (Kd.R (Kd.int .i64) 3 w' w.heap.size (fun _ => True) v166 x3_1) ∧ Aside0 (Below w.heap.size w w'))
 case atStart => exact ⟨(a0), (y165), (14), (by first | rfl | (simp; done) | (simp [*]; done)), (by first | rfl | (simp; done) | (simp [*]; done)), H', ⟨Nat.le_refl _⟩, ⟨by (with_reducible repeat (first | apply Kd.R_alloc | apply Kd.R_drewN | apply Kd.R_drew)); exact HO167.out⟩, ⟨by repeat (first | (with_reducible first | exact HB.out | apply below_alloc | apply pw_below_drewN | apply below_drew1) | exact HB.out)⟩⟩
 case round =>
  clear H'
  try clear c2
  try clear p2
  obtain ⟨x0_1, x3_1, x4_1, rfl, rfl, HA, HK1, HO_3, HB⟩ := hrel
  cases gk with
  | zero => exact absurd HA.out (by simp [magnetoref02_Of.l0])
  | succ k1 =>
   have H := HA.out
   clear HA
   simp only [magnetoref02_Of.l0] at H
   by_cases c4 : x4_1 ≥ 0
   ·
    rw [if_pos c4] at H
    have c4b0 : decide (0 ≤ x4_1) = true := decide_eq_true c4
    clear c4
    by_cases c5 : 0 ≤ x4_1
    ·
     rw [if_pos c5] at H
     have c5b0 : decide (0 ≤ x4_1) = true := decide_eq_true c5
     clear c5
     by_cases c6 : x4_1 < (x3_1.length : Int)
     ·
      rw [if_pos c6] at H
      have c6b0 : decide (x4_1 < (x3_1.length : Int)) = true := decide_eq_true c6
      clear c6
      obtain ⟨y168, hy168⟩ : ∃ y_ : List Int, y_ = (x3_1.set (x4_1 : Int).toNat (Int.tmod x0_1 2)) := ⟨_, rfl⟩
      replace H : (magnetoref02_Of.l0 k1 (wrap64 (Int.tdiv x0_1 2)) y168 (wrap64 (x4_1 - 1))) = some r := by first | (rw [hy168]; with_reducible exact H) | (have H2_ := (Option.bind_some _ _).symm.trans H; rw [hy168]; with_reducible exact H2_) | (have H2_ := (Option.bind_some _ _).symm.trans H; with_reducible exact H2_) | with_reducible exact H | (rw [hy168]; exact H) | exact H
      have Ny168 := Aside0.mk hy168
      clear hy168
      have H' := Aside0.mk H
      clear H
      have p7 : 0 ≤ (x4_1 : Int) := of_decide_eq_true (by first | (with_reducible assumption) | assumption)
      have q7 : (x4_1 : Int) < ((x3_1.length : Int) : Int) := of_decide_eq_true (by first | (with_reducible assumption) | assumption)
      obtain ⟨go7, co7, eo7, gb7, gl7, cl7, HG7⟩ := Kd.R_form HO_3.out (by omega)
      (first | cases eo7 | (injection eo7 with ea_ en_ ec_; (first | subst ea_ | (injection ea_ with ea_; subst ea_)); subst ec_; clear en_))
      have GB7 := Aside0.mk gb7
      have GG7 := Aside0.mk HG7
      clear gb7 gl7 HG7
      obtain ⟨hx7_0, hf7_0⟩ := Kd.R_celln 0 HO_3.out (x4_1 : Int) p7 q7
      replace p7 := eq_true p7
      replace q7 := eq_true q7
      have HP8 := Kd.R_putg HO_3.out (x4_1 : Int) (Int.tmod x0_1 2)
      go_wp2_with (first | ((with_reducible refine gate_store (t := 3) (p := 14) rfl ?_); refine store_event (t := 3) (p := 14) (v := ?vo_w9) (w1 := (wr.setCell ⟨go7, (x4_1 : Int).toNat, none⟩ (.int .i64 (Int.tmod x0_1 2)))) ?hg ?ho ?hn ?hr ?_; (case ho => rfl); (case hg => rfl); (case hn => rfl); (case hr => first | (go_simp; done) | (go_simp; rfl)); intro w9 hw; have hg : wr.grownBy w9 (some go7) := (by rw [hw]; exact HP8.2); have hp_ : Kd.R (Kd.int .i64) 3 w9 w.heap.size (fun _ => True) (.slice (some ⟨go7, 0, none⟩) x3_1.length co7) y168 := (by rw [hw, Ny168.out]; exact HP8.1); clear HP8; have n0_ := Aside0.mk (hp_); have n1_ := Aside0.mk ((by rw [hw]; exact below_set (HB.out) GB7.out : Below w.heap.size w w9)); clear HO_3; clear HB; have HO_3 := n0_; have HB := n1_; clear n0_ n1_; clear hg hw hp_))
      go_roundg k1
      case measure => have := HK1.out; omega
      case rel => exact ⟨(wrap64 (Int.tdiv x0_1 2)), (y168), (wrap64 (x4_1 - 1)), (by first | rfl | (simp; done) | (simp [*]; done)), (by first | rfl | (simp; done) | (simp [*]; done)), H', ⟨by have := HK1.out; omega⟩, ⟨by (with_reducible repeat (first | apply Kd.R_alloc | apply Kd.R_drewN | apply Kd.R_drew)); exact HO_3.out⟩, ⟨by repeat (first | (with_reducible first | exact HB.out | apply below_alloc | apply pw_below_drewN | apply below_drew1) | exact HB.out)⟩⟩
     ·
      rw [if_neg c6] at H
      exact absurd H (by simp)
    ·
     rw [if_neg c5] at H
     exact absurd H (by simp)
   ·
    rw [if_neg c4] at H
    have c4b0 : decide (0 ≤ x4_1) = false := decide_eq_false c4
    clear c4
    obtain rfl := Option.some.inj H
    go_wp2
    go_ret
    exact ⟨_, by first | rfl | (simp [errW_none, errW_some] <;> rfl) | (simp [*, errW_none, errW_some] <;> rfl), by (with_reducible repeat (first | apply Kd.R_alloc | apply Kd.R_drewN | apply Kd.R_drew)); exact HO_3.out, by repeat (first | (with_reducible first | exact HB.out | apply below_alloc | apply pw_below_drewN | apply below_drew1) | exact HB.out)⟩

/-! ### magnetoref02_Value: function 27 -/
def magnetoref02_Value.l0 : Nat → List Int → Int → Int → Option (Int)
 | 0, _, _, _ => none
 | k + 1, x0, x3, x4 => if x4 < (x0.length : Int) then (if 0 ≤ x4 then (magnetoref02_Value.l0 k x0 (wrap64 ((wrap64 (2 * x3)) + (rd x0 x4))) (wrap64 (x4 + 1))) else (none)) else (some x3)
def magnetoref02_Value.f (k : Nat) (l0 : List Int) : Option (Int) := magnetoref02_Value.l0 k l0 0 0
theorem magnetoref02_Value.mono_l : ∀ k, (∀ y0 y1 y2, LeO (magnetoref02_Value.l0 k y0 y1 y2) (magnetoref02_Value.l0 (k + 1) y0 y1 y2))
 | 0 => fun _ _ _ r h => by simp [magnetoref02_Value.l0] at h
 | k + 1 => by
  have ih0 := magnetoref02_Value.mono_l k
  ·
   intro y0 y1 y2
   unfold magnetoref02_Value.l0
   repeat' first
   | (with_reducible exact ih0 _ _ _)
   | (with_reducible exact LeO.refl _)
   | (with_reducible exact LeO.none _)
   | (with_reducible refine LeO.ite ?_ ?_)
   | (with_reducible refine LeO.bind ?_ (fun _ => ?_))
   | exact ih0 _ _ _
   | exact LeO.none _
   | refine LeO.ite ?_ ?_
   | refine LeO.bind ?_ (fun _ => ?_)
theorem magnetoref02_Value.mono : ∀ a0 k, LeO (magnetoref02_Value.f k a0) (magnetoref02_Value.f (k + 1) a0) := by
 intro a0 k
 have ih0 := magnetoref02_Value.mono_l k
 unfold magnetoref02_Value.f
 repeat' first
   | (with_reducible exact ih0 _ _ _)
   | (with_reducible exact LeO.refl _)
   | (with_reducible exact LeO.none _)
   | (with_reducible refine LeO.ite ?_ ?_)
   | (with_reducible refine LeO.bind ?_ (fun _ => ?_))
   | exact ih0 _ _ _
   | exact LeO.none _
   | refine LeO.ite ?_ ?_
   | refine LeO.bind ?_ (fun _ => ?_)
set_option maxHeartbeats 8000000 in
set_option maxRecDepth 100000 in
theorem magnetoref02_Value.calls (k : Nat) (A0 : Option Addr) (c0 : Nat) (l0 : List Int) (r : Int) (w : World) (hr0 : Kd.C (Kd.int .i64) w A0 l0.length l0) (hc0 : l0.length ≤ c0) (h : magnetoref02_Value.f k l0 = some r) :
  Calls Try.prog 27 #[.slice A0 l0.length c0] w fun e w' => e = .returned (.int .i64 r) ∧ Drawn0 w w' := by
 have HR0 := Aside0.mk hr0
 have HC0 := Aside0.mk hc0
 clear hr0 hc0
 have H : (magnetoref02_Value.l0 k l0 0 0) = some r := h
 clear h
 have H' := Aside0.mk H
 clear H
 go_enter Try.func27, Try.ntmps27
 go_wp2
 go_loopg [3, 4] k (fun kq v3 v4 w' => ∃ (x3_1 : Int) (x4_1 : Int), v3 = .int .i64 x3_1 ∧ v4 = .int .i64 x4_1 ∧ Aside0 (magnetoref02_Value.l0 kq l0 x3_1 x4_1 = some r) ∧ Aside0 (kq ≤ k) ∧ Drawn0 w w')
 case atStart => exact ⟨(0), (0), (by first | rfl | (simp; done) | (simp [*]; done)), (by first | rfl | (simp; done) | (simp [*]; done)), H', ⟨Nat.le_refl _⟩, by repeat (first | exact Drawn0.refl _ | apply Drawn0.step)⟩
 case round =>
  clear H'
  obtain ⟨x3_1, x4_1, rfl, rfl, HA, HK1, ⟨m1, rfl⟩⟩ := hrel
  cases gk with
  | zero => exact absurd HA.out (by simp [magnetoref02_Value.l0])
  | succ k1 =>
   have H := HA.out
   clear HA
   simp only [magnetoref02_Value.l0] at H
   by_cases c2 : x4_1 < (l0.length : Int)
   ·
    rw [if_pos c2] at H
    have c2b0 : decide (x4_1 < (l0.length : Int)) = true := decide_eq_true c2
    clear c2
    by_cases c3 : 0 ≤ x4_1
    ·
     rw [if_pos c3] at H
     have c3b0 : decide (0 ≤ x4_1) = true := decide_eq_true c3
     clear c3
     have H' := Aside0.mk H
     clear H
     have p169 : 0 ≤ (x4_1 : Int) := of_decide_eq_true (by first | (with_reducible assumption) | assumption)
     have q169 : x4_1 < (l0.length : Int) := of_decide_eq_true (by first | (with_reducible assumption) | assumption)
     obtain ⟨ad169, e169, hx169_0⟩ := Kd.at_int HR0.out x4_1 p169 q169
     cases e169
     replace p169 := eq_true p169
     replace q169 := eq_true q169
     go_wp2
     go_roundg k1
     case measure => have := HK1.out; omega
     case rel => exact ⟨(wrap64 ((wrap64 (2 * x3_1)) + (rd l0 x4_1))), (wrap64 (x4_1 + 1)), (by first | rfl | (simp; done) | (simp [*]; done)), (by first | rfl | (simp; done) | (simp [*]; done)), H', ⟨by have := HK1.out; omega⟩, by repeat (first | exact Drawn0.refl _ | apply Drawn0.step)⟩
    ·
     rw [if_neg c3] at H
     exact absurd H (by simp)
   ·
    rw [if_neg c2] at H
    have c2b0 : decide (x4_1 < (l0.length : Int)) = false := decide_eq_false c2
    clear c2
    obtain rfl := Option.some.inj H
    go_wp2
    go_ret
    exact ⟨by first | rfl | (simp; done) | (simp [*]; done), by repeat (first | exact Drawn0.refl _ | apply Drawn0.step)⟩

/-! ### magnetoref02_Poly: function 58 -/
def magnetoref02_Poly.f  : Option (List Int) := some (([1, 0, 0, 0, 1, 0, 1, 1, 0, 0, 1, 1, 0, 0, 1] : List Int))
set_option maxHeartbeats 8000000 in
set_option maxRecDepth 100000 in
theorem magnetoref02_Poly.calls  (r : List Int) (w : World) (h : magnetoref02_Poly.f  = some r) :
  Calls Try.prog 58 #[] w fun e w' => ∃ v0_ : Value, e = .returned (v0_) ∧ Kd.R (Kd.int .i64) 3 w' w.heap.size (fun _ => True) v0_ r ∧ Below w.heap.size w w' := by
 have HB := Aside0.mk (Below.refl w.heap.size w)
 have H : (some (([1, 0, 0, 0, 1, 0, 1, 1, 0, 0, 1, 1, 0, 0, 1] : List Int))) = some r := h
 clear h
 obtain ⟨y170, hy170⟩ : ∃ y_ : List Int, y_ = (([1, 0, 0, 0, 1, 0, 1, 1, 0, 0, 1, 1, 0, 0, 1] : List Int)) := ⟨_, rfl⟩
 replace H : (some y170) = some r := by first | (rw [hy170]; with_reducible exact H) | (have H2_ := (Option.bind_some _ _).symm.trans H; rw [hy170]; with_reducible exact H2_) | (have H2_ := (Option.bind_some _ _).symm.trans H; with_reducible exact H2_) | with_reducible exact H | (rw [hy170]; exact H) | exact H
 have Ny170 := Aside0.mk hy170
 clear hy170
 obtain rfl := Option.some.inj H
 go_enter Try.func58, Try.ntmps58
 go_wp2_with (first | ((with_reducible refine gate_dst (N := 1) rfl ?_); refine Kd.R_lit (Kd.int .i64) _ 3 ?hg (N := 1) ?hd (xs := ([1, 0, 0, 0, 1, 0, 1, 1, 0, 0, 1, 1, 0, 0, 1] : List Int)) (inner := [.int .i64 1, .int .i64 0, .int .i64 0, .int .i64 0, .int .i64 1, .int .i64 0, .int .i64 1, .int .i64 1, .int .i64 0, .int .i64 0, .int .i64 1, .int .i64 1, .int .i64 0, .int .i64 0, .int .i64 1]) (ok := fun _ => True) (okp := fun _ => True) ?hr ?hp (fun _ hk => hk) trivial (Below.refl _ _) (Nat.le_refl _) (by simp) ?_; (case hd => rfl); (case hg => rfl); (case hr => first | (go_simp; done) | (go_simp; rfl)); (case hp => exact (Reps.one (show Kd.M (Kd.int .i64) _ _ _ 1 [.int .i64 1] from rfl) (Reps.one (show Kd.M (Kd.int .i64) _ _ _ 0 [.int .i64 0] from rfl) (Reps.one (show Kd.M (Kd.int .i64) _ _ _ 0 [.int .i64 0] from rfl) (Reps.one (show Kd.M (Kd.int .i64) _ _ _ 0 [.int .i64 0] from rfl) (Reps.one (show Kd.M (Kd.int .i64) _ _ _ 1 [.int .i64 1] from rfl) (Reps.one (show Kd.M (Kd.int .i64) _ _ _ 0 [.int .i64 0] from rfl) (Reps.one (show Kd.M (Kd.int .i64) _ _ _ 1 [.int .i64 1] from rfl) (Reps.one (show Kd.M (Kd.int .i64) _ _ _ 1 [.int .i64 1] from rfl) (Reps.one (show Kd.M (Kd.int .i64) _ _ _ 0 [.int .i64 0] from rfl) (Reps.one (show Kd.M (Kd.int .i64) _ _ _ 0 [.int .i64 0] from rfl) (Reps.one (show Kd.M (Kd.int .i64) _ _ _ 1 [.int .i64 1] from rfl) (Reps.one (show Kd.M (Kd.int .i64) _ _ _ 1 [.int .i64 1] from rfl) (Reps.one (show Kd.M (Kd.int .i64) _ _ _ 0 [.int .i64 0] from rfl) (Reps.one (show Kd.M (Kd.int .i64) _ _ _ 0 [.int .i64 0] from rfl) (Reps.one (show Kd.M (Kd.int .i64) _ _ _ 1 [.int .i64 1] from rfl) (Reps.none _ _))))))))))))))))); intro v171 w1 ho2 hb hg_ hnew_; clear hg_ hnew_; (first | rw [← Ny170.out] at ho2 | (simp only [Int.reduceToNat] at ho2; rw [← Ny170.out] at ho2)); have n0_ := Aside0.mk (Kd.R_lower ho2 (below_size (by repeat (first | (with_reducible first | exact HB.out | apply below_alloc | apply pw_below_drewN | apply below_drew1) | exact HB.out)))); have n1_ := Aside0.mk (below_step (by repeat (first | (with_reducible first | exact HB.out | apply below_alloc | apply pw_below_drewN | apply below_drew1) | exact HB.out)) hb); clear HB; have HO172 := n0_; have HB := n1_; clear n0_ n1_; clear hb ho2))
 go_ret
 exact ⟨_, by first | rfl | (simp [errW_none, errW_some] <;> rfl) | (simp [*, errW_none, errW_some] <;> rfl), by (with_reducible repeat (first | apply Kd.R_alloc | apply Kd.R_drewN | apply Kd.R_drew)); exact HO172.out, by repeat (first | (with_reducible first | exact HB.out | apply below_alloc | apply pw_below_drewN | apply below_drew1) | exact HB.out)⟩

/-! ### magnetoref02_Behind: function 28 -/
def magnetoref02_Behind.l0 : Nat → List Int → Int → List Int → List Int → Int → Option (List Int)
 | 0, _, _, _, _, _ => none
 | k + 1, x0, x5, x6, x7, x8 => if x8 < 15 then (if x8 < 14 then (if 0 ≤ (wrap64 (x8 + 1)) then (if (wrap64 (x8 + 1)) < (x0.length : Int) then (if 0 ≤ x8 then (if x8 < (x7.length : Int) then (if x6.length < 17592186044416 then (magnetoref02_Behind.l0 k x0 x5 (x6 ++ [Int.tmod (wrap64 ((rd x0 (wrap64 (x8 + 1))) + (wrap64 (x5 * (rd x7 x8))))) 2]) x7 (wrap64 (x8 + 1))) else (none)) else (none)) else (none)) else (none)) else (none)) else (if 0 ≤ x8 then (if x8 < (x7.length : Int) then (if x6.length < 17592186044416 then (magnetoref02_Behind.l0 k x0 x5 (x6 ++ [Int.tmod (wrap64 ((wrap64 (x5 * (rd x7 x8))))) 2]) x7 (wrap64 (x8 + 1))) else (none)) else (none)) else (none))) else (some x6)
def magnetoref02_Behind.f (k : Nat) (l0 : List Int) (a1 : Int) : Option (List Int) := if 0 < (l0.length : Int) then ((magnetoref02_Poly.f).bind fun t177 => (magnetoref02_Behind.l0 k l0 (Int.tmod (wrap64 ((rd l0 0) + a1)) 2) (([] : List Int)) t177 0)) else (none)
theorem magnetoref02_Behind.mono_l : ∀ k, (∀ y0 y1 y2 y3 y4, LeO (magnetoref02_Behind.l0 k y0 y1 y2 y3 y4) (magnetoref02_Behind.l0 (k + 1) y0 y1 y2 y3 y4))
 | 0 => fun _ _ _ _ _ r h => by simp [magnetoref02_Behind.l0] at h
 | k + 1 => by
  have ih0 := magnetoref02_Behind.mono_l k
  ·
   intro y0 y1 y2 y3 y4
   unfold magnetoref02_Behind.l0
   repeat' first
   | (with_reducible exact ih0 _ _ _ _ _)
   | (with_reducible exact LeO.refl _)
   | (with_reducible exact LeO.none _)
   | (with_reducible refine LeO.ite ?_ ?_)
   | (with_reducible refine LeO.bind ?_ (fun _ => ?_))
   | exact ih0 _ _ _ _ _
   | exact LeO.none _
   | refine LeO.ite ?_ ?_
   | refine LeO.bind ?_ (fun _ => ?_)
theorem magnetoref02_Behind.mono : ∀ a0 a1 k, LeO (magnetoref02_Behind.f k a0 a1) (magnetoref02_Behind.f (k + 1) a0 a1) := by
 intro a0 a1 k
 have ih0 := magnetoref02_Behind.mono_l k
 unfold magnetoref02_Behind.f
 repeat' first
   | (with_reducible exact ih0 _ _ _ _ _)
   | (with_reducible exact LeO.refl _)
   | (with_reducible exact LeO.none _)
   | (with_reducible refine LeO.ite ?_ ?_)
   | (with_reducible refine LeO.bind ?_ (fun _ => ?_))
   | exact ih0 _ _ _ _ _
   | exact LeO.none _
   | refine LeO.ite ?_ ?_
   | refine LeO.bind ?_ (fun _ => ?_)
set_option maxHeartbeats 8000000 in
set_option maxRecDepth 100000 in
theorem magnetoref02_Behind.calls (k : Nat) (A0 : Option Addr) (c0 : Nat) (l0 : List Int) (a1 : Int) (r : List Int) (w : World) (hr0 : Kd.C (Kd.int .i64) w A0 l0.length l0) (hc0 : l0.length ≤ c0) (h : magnetoref02_Behind.f k l0 a1 = some r) :
  Calls Try.prog 28 #[.slice A0 l0.length c0, .int .i64 a1] w fun e w' => ∃ v0_ : Value, e = .returned (v0_) ∧ Kd.R (Kd.int .i64) 3 w' w.heap.size (fun _ => True) v0_ r ∧ Below w.heap.size w w' := by
 have HR0 := Aside0.mk hr0
 have HC0 := Aside0.mk hc0
 clear hr0 hc0
 have HB := Aside0.mk (Below.refl w.heap.size w)
 have H : (if 0 < (l0.length : Int) then ((magnetoref02_Poly.f).bind fun t177 => (magnetoref02_Behind.l0 k l0 (Int.tmod (wrap64 ((rd l0 0) + a1)) 2) (([] : List Int)) t177 0)) else (none)) = some r := h
 clear h
 by_cases c3 : 0 < (l0.length : Int)
 ·
  rw [if_pos c3] at H
  have c3b0 : decide (0 < (l0.length : Int)) = true := decide_eq_true c3
  have c3b1 : decide (0 < l0.length) = true := decide_eq_true (by omega)
  clear c3
  obtain ⟨y174, hy174⟩ : ∃ y_ : List Int, y_ = (([] : List Int)) := ⟨_, rfl⟩
  replace H : ((magnetoref02_Poly.f).bind fun t177 => (magnetoref02_Behind.l0 k l0 (Int.tmod (wrap64 ((rd l0 0) + a1)) 2) y174 t177 0)) = some r := by first | (rw [hy174]; with_reducible exact H) | (have H2_ := (Option.bind_some _ _).symm.trans H; rw [hy174]; with_reducible exact H2_) | (have H2_ := (Option.bind_some _ _).symm.trans H; with_reducible exact H2_) | with_reducible exact H | (rw [hy174]; exact H) | exact H
  have Ny174 := Aside0.mk hy174
  clear hy174
  replace H := Option.bind_eq_some_iff.mp H
  obtain ⟨t177, A40, H⟩ := H
  replace H : (magnetoref02_Behind.l0 k l0 (Int.tmod (wrap64 ((rd l0 0) + a1)) 2) y174 t177 0) = some r := H
  have A4 := Aside0.mk A40
  clear A40
  have H' := Aside0.mk H
  clear H
  have p173 : 0 ≤ (0 : Int) := (by omega)
  have q173 : 0 < (l0.length : Int) := of_decide_eq_true (by first | (with_reducible assumption) | assumption)
  obtain ⟨ad173, e173, hx173_0⟩ := Kd.at_int HR0.out 0 p173 q173
  cases e173
  have qi173 : (0 < l0.length) = True := eq_true (by omega)
  (try rw [show ((0 : Int)).toNat = 0 from rfl] at hx173_0)
  (try rw [Addr.add_zero'] at hx173_0)
  replace p173 := eq_true p173
  replace q173 := eq_true q173
  go_enter Try.func28, Try.ntmps28
  go_wp2_with (first | ((with_reducible refine gate_dst (N := 16) rfl ?_); refine Kd.R_lit (Kd.int .i64) _ 3 ?hg (N := 16) ?hd (xs := ([] : List Int)) (inner := []) (ok := fun _ => True) (okp := fun _ => True) ?hr ?hp (fun _ hk => hk) trivial (Below.refl _ _) (Nat.le_refl _) (by simp) ?_; (case hd => rfl); (case hg => rfl); (case hr => first | (go_simp; done) | (go_simp; rfl)); (case hp => exact (Reps.none _ _)); intro v175 w5 ho6 hb hg_ hnew_; clear hg_ hnew_; (first | rw [← Ny174.out] at ho6 | (simp only [Int.reduceToNat] at ho6; rw [← Ny174.out] at ho6)); have n0_ := Aside0.mk (Kd.R_lower ho6 (below_size (by repeat (first | (with_reducible first | exact HB.out | apply below_alloc | apply pw_below_drewN | apply below_drew1) | exact HB.out)))); have n1_ := Aside0.mk (below_step (by repeat (first | (with_reducible first | exact HB.out | apply below_alloc | apply pw_below_drewN | apply below_drew1) | exact HB.out)) hb); clear HB; have HO176 := n0_; have HB := n1_; clear n0_ n1_; clear hb ho6) | ((with_reducible refine gate_callee (f := 58) rfl ?_); refine goesL_ (some 17) rfl rfl Try.func58 (by kernel_rfl) rfl #[] rfl (by (try simp only [List.map_toArray, List.map_cons, List.map_nil]); first | done | rfl | (simp only [List.length_drop, List.length_take]; rfl)) ?_; (with_reducible refine (magnetoref02_Poly.calls  t177 _ A4.out).mono ?_); rintro e w7 ⟨v178, rfl, ho0, hb⟩; refine ⟨_, rfl, ?_⟩; have n0_ := Aside0.mk (Kd.R_elder' (by (with_reducible repeat (first | apply Kd.R_alloc | apply Kd.R_drewN | apply Kd.R_drew)); exact HO176.out) (Kd.R_base ho0) hb); have n1_ := Aside0.mk (Kd.R_lower (Kd.R_new' ho0 (Kd.R_lt (by (with_reducible repeat (first | apply Kd.R_alloc | apply Kd.R_drewN | apply Kd.R_drew)); exact HO176.out))) (below_size (by repeat (first | (with_reducible first | exact HB.out | apply below_alloc | apply pw_below_drewN | apply below_drew1) | exact HB.out)))); have n2_ := Aside0.mk (below_step (by repeat (first | (with_reducible first | exact HB.out | apply below_alloc | apply pw_below_drewN | apply below_drew1) | exact HB.out)) hb); clear HO176; clear HB; have HO176 := n0_; have HO179 := n1_; have HB := n2_; clear n0_ n1_ n2_; (try clear hb); (try clear hb2); (try clear hk); (try clear hi); (try clear ho0)))
  go_loopg [6, 8] k (fun kq v6 v8 w' => ∃ (x6_1 : List Int) (x8_1 : Int), v8 = .int .i64 x8_1 ∧ Aside0 (magnetoref02_Behind.l0 kq l0 (Int.tmod (wrap64 ((rd l0 0) + a1)) 2) x6_1 t177 x8_1 = some r) ∧ Aside0 (kq ≤ k) ∧ Aside0 (Kd.R (Kd.int .i64) 3 w' w.heap.size (fun k_ => some k_ ≠ (v178 : Value).ownBlock) v6 x6_1) ∧ Aside0 (Kd.R (Kd.int .i64) 3 w' w.heap.size (fun k_ => some k_ ≠ (v6 : Value).ownBlock) v178 t177) ∧ Aside0 (Below w.heap.size w w'))
  case atStart => exact ⟨(y174), (0), (by first | rfl | (simp; done) | (simp [*]; done)), H', ⟨Nat.le_refl _⟩, ⟨by (with_reducible repeat (first | apply Kd.R_alloc | apply Kd.R_drewN | apply Kd.R_drew)); exact Kd.R_mono HO176.out (fun _ hk => hk.2)⟩, ⟨by (with_reducible repeat (first | apply Kd.R_alloc | apply Kd.R_drewN | apply Kd.R_drew)); exact Kd.R_mono HO179.out (fun _ hk => hk.2)⟩, ⟨by repeat (first | (with_reducible first | exact HB.out | apply below_alloc | apply pw_below_drewN | apply below_drew1) | exact HB.out)⟩⟩
  case round =>
   clear H'
   try clear p1
   try clear q1
   try clear hx1
   try clear qi1
   try clear c2
   try clear p2
   try clear c3
   try clear c3b0
   try clear c3b1
   try clear c5
   try clear p6
   try clear hx173_0
   try clear p173
   try clear q173
   obtain ⟨x6_1, x8_1, rfl, HA, HK1, HO_6, HO_7, HB⟩ := hrel
   cases gk with
   | zero => exact absurd HA.out (by simp [magnetoref02_Behind.l0])
   | succ k1 =>
    have H := HA.out
    clear HA
    simp only [magnetoref02_Behind.l0] at H
    by_cases c8 : x8_1 < 15
    ·
     rw [if_pos c8] at H
     have c8b0 : decide (x8_1 < 15) = true := decide_eq_true c8
     clear c8
     by_cases c9 : x8_1 < 14
     ·
      rw [if_pos c9] at H
      have c9b0 : decide (x8_1 < 14) = true := decide_eq_true c9
      clear c9
      obtain ⟨ji10, hji10⟩ : ∃ j_ : Int, (wrap64 (x8_1 + 1)) = j_ := ⟨_, rfl⟩
      replace H : (if 0 ≤ (ji10) then (if (ji10) < (l0.length : Int) then (if 0 ≤ x8_1 then (if x8_1 < (t177.length : Int) then (if x6_1.length < 17592186044416 then (magnetoref02_Behind.l0 k1 l0 (Int.tmod (wrap64 ((rd l0 0) + a1)) 2) (x6_1 ++ [Int.tmod (wrap64 ((rd l0 (ji10)) + (wrap64 ((Int.tmod (wrap64 ((rd l0 0) + a1)) 2) * (rd t177 x8_1))))) 2]) t177 ji10) else (none)) else (none)) else (none)) else (none)) else (none)) = some r := by first | (rw [hji10] at H; exact H) | (simp only [hji10] at H ⊢; exact H)
      have hji10w : (IntKind.i64.wrap (x8_1 + 1)) = ji10 := (i64_w _).trans hji10
      by_cases c11 : 0 ≤ (ji10)
      ·
       rw [if_pos c11] at H
       have c11b0 : decide (0 ≤ (ji10)) = true := decide_eq_true c11
       clear c11
       by_cases c12 : (ji10) < (l0.length : Int)
       ·
        rw [if_pos c12] at H
        have c12b0 : decide ((ji10) < (l0.length : Int)) = true := decide_eq_true c12
        clear c12
        by_cases c13 : 0 ≤ x8_1
        ·
         rw [if_pos c13] at H
         have c13b0 : decide (0 ≤ x8_1) = true := decide_eq_true c13
         clear c13
         by_cases c14 : x8_1 < (t177.length : Int)
         ·
          rw [if_pos c14] at H
          have c14b0 : decide (x8_1 < (t177.length : Int)) = true := decide_eq_true c14
          clear c14
          by_cases c15 : x6_1.length < 17592186044416
          ·
           rw [if_pos c15] at H
           have LMc15 := Aside0.mk c15
           clear c15
           obtain ⟨y182, hy182⟩ : ∃ y_ : List Int, y_ = (x6_1 ++ [Int.tmod (wrap64 ((rd l0 (ji10)) + (wrap64 ((Int.tmod (wrap64 ((rd l0 0) + a1)) 2) * (rd t177 x8_1))))) 2]) := ⟨_, rfl⟩
           replace H : (magnetoref02_Behind.l0 k1 l0 (Int.tmod (wrap64 ((rd l0 0) + a1)) 2) y182 t177 ji10) = some r := by first | (rw [hy182]; with_reducible exact H) | (have H2_ := (Option.bind_some _ _).symm.trans H; rw [hy182]; with_reducible exact H2_) | (have H2_ := (Option.bind_some _ _).symm.trans H; with_reducible exact H2_) | with_reducible exact H | (rw [hy182]; exact H) | exact H
           have Ny182 := Aside0.mk hy182
           clear hy182
           have H' := Aside0.mk H
           clear H
           have p180 : 0 ≤ ((ji10) : Int) := of_decide_eq_true (by first | (with_reducible assumption) | assumption)
           have q180 : (ji10) < (l0.length : Int) := of_decide_eq_true (by first | (with_reducible assumption) | assumption)
           obtain ⟨ad180, e180, hx180_0⟩ := Kd.at_int HR0.out (ji10) p180 q180
           obtain rfl : ad173 = ad180 := (by injection e180)
           replace hx180_0 := (HB.out.cell (World.block_lt_of_cell? w _ hx180_0)).trans hx180_0
           replace p180 := eq_true p180
           replace q180 := eq_true q180
           obtain ⟨Ao16, co16, eo16⟩ := Kd.R_slice HO_7.out
           subst eo16
           have p181 : 0 ≤ (x8_1 : Int) := of_decide_eq_true (by first | (with_reducible assumption) | assumption)
           have q181 : x8_1 < (t177.length : Int) := of_decide_eq_true (by first | (with_reducible assumption) | assumption)
           obtain ⟨ad181, e181, hx181_0⟩ := Kd.at_int (Kd.R_reads' HO_7.out).2.2 x8_1 p181 q181
           cases e181
           replace p181 := eq_true p181
           replace q181 := eq_true q181
           go_wp2_with (first | ((with_reducible refine gate_builtin (b := .append) (xs := #[.tmp 29, .tmp 39]) rfl ?_); at_builtin; refine Kd.R_append (Kd.int .i64) (w0 := w) w.heap.size rfl (.tmp 29) (.tmp 39) 22 3 (.int .i64 0) 8 rfl Try.underlying22 info3 rfl (by decide) (by omega) u6 x6_1 (Int.tmod (wrap64 ((rd l0 (ji10)) + (wrap64 ((Int.tmod (wrap64 ((rd l0 0) + a1)) 2) * (rd t177 x8_1))))) 2) [.int .i64 (Int.tmod (wrap64 ((rd l0 (ji10)) + (wrap64 ((Int.tmod (wrap64 ((rd l0 0) + a1)) 2) * (rd t177 x8_1))))) 2)] (fun k_ => some k_ ≠ (.slice (some ad181) t177.length co16 : Value).ownBlock) (fun _ => False) rfl rfl ?aP (fun _ hk => hk.elim) ?aF ?aO ?aB ?aS ?aL ?_; (case aP => exact rfl); (case aB => exact (by repeat (first | (with_reducible first | exact HB.out | apply below_alloc | apply pw_below_drewN | apply below_drew1) | exact HB.out))); (case aF => exact (fun k_ hk => Kd.fresh' (Kd.R_lt (by (with_reducible repeat (first | apply Kd.R_alloc | apply Kd.R_drewN | apply Kd.R_drew)); exact HO_7.out)) k_ hk)); (case aO => exact (by (with_reducible repeat (first | apply Kd.R_alloc | apply Kd.R_drewN | apply Kd.R_drew)); exact HO_6.out)); (case aS => exact (below_size (by repeat (first | (with_reducible first | exact HB.out | apply below_alloc | apply pw_below_drewN | apply below_drew1) | exact HB.out)))); (case aL => have := LMc15.out; omega); intro v183 w17 ho hb hg hat; rw [← Ny182.out] at ho; have n0_ := Aside0.mk (Kd.R_after (ok := (fun _ => True)) (by (with_reducible repeat (first | apply Kd.R_alloc | apply Kd.R_drewN | apply Kd.R_drew)); exact Kd.R_mono HO_7.out (fun _ hk => ⟨trivial, hk⟩)) hg hat); have n1_ := Aside0.mk (hb); have n2_ := Aside0.mk (ho); clear HO_7; clear HB; clear HO_6; have HO_7 := n0_; have HB := n1_; have HO184 := n2_; clear n0_ n1_ n2_; clear ho hb hg hat))
           go_roundg k1
           case measure => have := HK1.out; omega
           case rel => exact ⟨(y182), (ji10), (by first | rfl | (simp; done) | (simp only [← hji10] <;> (first | rfl | simp)) | (simp [*]; done)), H', ⟨by have := HK1.out; omega⟩, ⟨by (with_reducible repeat (first | apply Kd.R_alloc | apply Kd.R_drewN | apply Kd.R_drew)); exact HO184.out⟩, ⟨by (with_reducible repeat (first | apply Kd.R_alloc | apply Kd.R_drewN | apply Kd.R_drew)); exact Kd.R_mono HO_7.out (fun _ hk => hk.2)⟩, ⟨by repeat (first | (with_reducible first | exact HB.out | apply below_alloc | apply pw_below_drewN | apply below_drew1) | exact HB.out)⟩⟩
          ·
           rw [if_neg c15] at H
           exact absurd H (by simp)
         ·
          rw [if_neg c14] at H
          exact absurd H (by simp)
        ·
         rw [if_neg c13] at H
         exact absurd H (by simp)
       ·
        rw [if_neg c12] at H
        exact absurd H (by simp)
      ·
       rw [if_neg c11] at H
       exact absurd H (by simp)
     ·
      rw [if_neg c9] at H
      have c9b0 : decide (x8_1 < 14) = false := decide_eq_false c9
      clear c9
      by_cases c18 : 0 ≤ x8_1
      ·
       rw [if_pos c18] at H
       have c18b0 : decide (0 ≤ x8_1) = true := decide_eq_true c18
       clear c18
       by_cases c19 : x8_1 < (t177.length : Int)
       ·
        rw [if_pos c19] at H
        have c19b0 : decide (x8_1 < (t177.length : Int)) = true := decide_eq_true c19
        clear c19
        by_cases c20 : x6_1.length < 17592186044416
        ·
         rw [if_pos c20] at H
         have LMc20 := Aside0.mk c20
         clear c20
         obtain ⟨y186, hy186⟩ : ∃ y_ : List Int, y_ = (x6_1 ++ [Int.tmod (wrap64 ((wrap64 ((Int.tmod (wrap64 ((rd l0 0) + a1)) 2) * (rd t177 x8_1))))) 2]) := ⟨_, rfl⟩
         replace H : (magnetoref02_Behind.l0 k1 l0 (Int.tmod (wrap64 ((rd l0 0) + a1)) 2) y186 t177 (wrap64 (x8_1 + 1))) = some r := by first | (rw [hy186]; with_reducible exact H) | (have H2_ := (Option.bind_some _ _).symm.trans H; rw [hy186]; with_reducible exact H2_) | (have H2_ := (Option.bind_some _ _).symm.trans H; with_reducible exact H2_) | with_reducible exact H | (rw [hy186]; exact H) | exact H
         have Ny186 := Aside0.mk hy186
         clear hy186
         have H' := Aside0.mk H
         clear H
         obtain ⟨Ao21, co21, eo21⟩ := Kd.R_slice HO_7.out
         subst eo21
         have p185 : 0 ≤ (x8_1 : Int) := of_decide_eq_true (by first | (with_reducible assumption) | assumption)
         have q185 : x8_1 < (t177.length : Int) := of_decide_eq_true (by first | (with_reducible assumption) | assumption)
         obtain ⟨ad185, e185, hx185_0⟩ := Kd.at_int (Kd.R_reads' HO_7.out).2.2 x8_1 p185 q185
         cases e185
         replace p185 := eq_true p185
         replace q185 := eq_true q185
         go_wp2_with (first | ((with_reducible refine gate_builtin (b := .append) (xs := #[.tmp 29, .tmp 39]) rfl ?_); at_builtin; refine Kd.R_append (Kd.int .i64) (w0 := w) w.heap.size rfl (.tmp 29) (.tmp 39) 22 3 (.int .i64 0) 8 rfl Try.underlying22 info3 rfl (by decide) (by omega) u6 x6_1 (Int.tmod (wrap64 ((wrap64 ((Int.tmod (wrap64 ((rd l0 0) + a1)) 2) * (rd t177 x8_1))))) 2) [.int .i64 (Int.tmod (wrap64 ((wrap64 ((Int.tmod (wrap64 ((rd l0 0) + a1)) 2) * (rd t177 x8_1))))) 2)] (fun k_ => some k_ ≠ (.slice (some ad185) t177.length co21 : Value).ownBlock) (fun _ => False) rfl rfl ?aP (fun _ hk => hk.elim) ?aF ?aO ?aB ?aS ?aL ?_; (case aP => exact rfl); (case aB => exact (by repeat (first | (with_reducible first | exact HB.out | apply below_alloc | apply pw_below_drewN | apply below_drew1) | exact HB.out))); (case aF => exact (fun k_ hk => Kd.fresh' (Kd.R_lt (by (with_reducible repeat (first | apply Kd.R_alloc | apply Kd.R_drewN | apply Kd.R_drew)); exact HO_7.out)) k_ hk)); (case aO => exact (by (with_reducible repeat (first | apply Kd.R_alloc | apply Kd.R_drewN | apply Kd.R_drew)); exact HO_6.out)); (case aS => exact (below_size (by repeat (first | (with_reducible first | exact HB.out | apply below_alloc | apply pw_below_drewN | apply below_drew1) | exact HB.out)))); (case aL => have := LMc20.out; omega); intro v187 w22 ho hb hg hat; rw [← Ny186.out] at ho; have n0_ := Aside0.mk (Kd.R_after (ok := (fun _ => True)) (by (with_reducible repeat (first | apply Kd.R_alloc | apply Kd.R_drewN | apply Kd.R_drew)); exact Kd.R_mono HO_7.out (fun _ hk => ⟨trivial, hk⟩)) hg hat); have n1_ := Aside0.mk (hb); have n2_ := Aside0.mk (ho); clear HO_7; clear HB; clear HO_6; have HO_7 := n0_; have HB := n1_; have HO188 := n2_; clear n0_ n1_ n2_; clear ho hb hg hat))
         go_roundg k1
         case measure => have := HK1.out; omega
         case rel => exact ⟨(y186), (wrap64 (x8_1 + 1)), (by first | rfl | (simp; done) | (simp [*]; done)), H', ⟨by have := HK1.out; omega⟩, ⟨by (with_reducible repeat (first | apply Kd.R_alloc | apply Kd.R_drewN | apply Kd.R_drew)); exact HO188.out⟩, ⟨by (with_reducible repeat (first | apply Kd.R_alloc | apply Kd.R_drewN | apply Kd.R_drew)); exact Kd.R_mono HO_7.out (fun _ hk => hk.2)⟩, ⟨by repeat (first | (with_reducible first | exact HB.out | apply below_alloc | apply pw_below_drewN | apply below_drew1) | exact HB.out)⟩⟩
        ·
         rw [if_neg c20] at H
         exact absurd H (by simp)
       ·
        rw [if_neg c19] at H
        exact absurd H (by simp)
      ·
       rw [if_neg c18] at H
       exact absurd H (by simp)
    ·
     rw [if_neg c8] at H
     have c8b0 : decide (x8_1 < 15) = false := decide_eq_false c8
     clear c8
     obtain rfl := Option.some.inj H
     go_wp2
     go_ret
     exact ⟨_, by first | rfl | (simp [errW_none, errW_some] <;> rfl) | (simp [*, errW_none, errW_some] <;> rfl), by (with_reducible repeat (first | apply Kd.R_alloc | apply Kd.R_drewN | apply Kd.R_drew)); exact Kd.R_mono HO_6.out (fun _ hk => trivial), by repeat (first | (with_reducible first | exact HB.out | apply below_alloc | apply pw_below_drewN | apply below_drew1) | exact HB.out)⟩
 ·
  rw [if_neg c3] at H
  exact absurd H (by simp)

end Go.Proofs.Ytipflkbpjnacnaa.PA
