/- Functions of the program, in plain Lean, and their walks (printed; half the indent). Conditions: none. -/
-- PRINTED by print.py (a twelfth state) out of the translation. Not trusted: Lean checks it.
import Derived.Test.YtakemodmdhglnaaPAx0
import Derived.Test.YtakemodmdhglnaaPAx13
import Derived.Test.YtakemodmdhglnaaPAx21
import Derived.Test.YtakemodmdhglnaaPAx34
import Derived.Test.YtakemodmdhglnaaPAx36
import Derived.Test.YtakemodmdhglnaaPAx38
namespace Go.Proofs.Ytakemodmdhglnaa.PA
open Go.RowKit Go.Proofs.YtakemodmdhglnaaW.PrintWords Go.Proofs.YtakemodmdhglnaaW.PrintLast Go.Proofs.YtakemodmdhglnaaW.PrintMore
attribute [local go_sem] zqbb zqaz zqbd zqbe zqax zqay zqba zqbc   -- for this text's walks alone
set_option linter.unusedVariables false
set_option linter.unusedSimpArgs false

/-! ### magnetoref06_Encode: function 41 -/
def magnetoref06_Encode.f (k : Nat) (a0_0 : Int) (a0_1 : Bool) (a0_2 : Bool) (a0_3 : Int) (a0_4 : Int) (a0_5 : Int) (a0_6 : Int) (a0_7 : Int) (a0_8 : Int) (a0_9 : Int) (a0_10 : Int) (a0_11 : Int) (a1 : Bool) : Option (List Int) := (magnetoref04_Bits.f k a0_0 a0_1 a0_2 a0_3 a0_4 a0_5 a0_6 a0_7 a0_8 a0_9 a0_10 a0_11).bind fun t951 => ((magnetoref04_Sum.f k t951).bind fun t954 => (if t951.length + t954.length < 17592186044416 then ((magnetoref05_Add.f k (t951 ++ t954)).bind fun t960 => ((some (([1, 1] : List Int) : List Int)).bind fun y963 => (if t960.length + y963.length < 17592186044416 then ((some (t960 ++ y963 : List Int)).bind fun y966 => (if a1 = true then (if 0 ≤ (wrap64 ((y966.length : Int) - 1)) then (if (wrap64 ((y966.length : Int) - 1)) < (y966.length : Int) then ((some (y966.set ((wrap64 ((y966.length : Int) - 1)) : Int).toNat 0 : List Int)).bind fun y969 => ((some (([1, 1, 1, 1, 1, 1, 1, 1] : List Int) : List Int)).bind fun y970 => (if y969.length + y970.length < 17592186044416 then (some (y969 ++ y970)) else (none)))) else (none)) else (none)) else ((some (([1, 1, 1, 1, 1, 1, 1, 1] : List Int) : List Int)).bind fun y976 => (if y966.length + y976.length < 17592186044416 then (some (y966 ++ y976)) else (none))))) else (none)))) else (none)))
theorem magnetoref06_Encode.mono : ∀ a0 a1 a2 a3 a4 a5 a6 a7 a8 a9 a10 a11 a12 k, LeO (magnetoref06_Encode.f k a0 a1 a2 a3 a4 a5 a6 a7 a8 a9 a10 a11 a12) (magnetoref06_Encode.f (k + 1) a0 a1 a2 a3 a4 a5 a6 a7 a8 a9 a10 a11 a12) := by
 intro a0 a1 a2 a3 a4 a5 a6 a7 a8 a9 a10 a11 a12 k
 unfold magnetoref06_Encode.f
 repeat' first
   | (with_reducible exact magnetoref04_Bits.mono _ _ _ _ _ _ _ _ _ _ _ _ _)
   | (with_reducible exact magnetoref04_Sum.mono _ _)
   | (with_reducible exact magnetoref05_Add.mono _ _)
   | (with_reducible exact LeO.refl _)
   | (with_reducible exact LeO.none _)
   | (with_reducible refine LeO.ite ?_ ?_)
   | (with_reducible refine LeO.bind ?_ (fun _ => ?_))
   | exact magnetoref04_Bits.mono _ _ _ _ _ _ _ _ _ _ _ _ _
   | exact magnetoref04_Sum.mono _ _
   | exact magnetoref05_Add.mono _ _
   | exact LeO.none _
   | refine LeO.ite ?_ ?_
   | refine LeO.bind ?_ (fun _ => ?_)
set_option maxHeartbeats 8000000 in
set_option maxRecDepth 100000 in
theorem magnetoref06_Encode.calls (k : Nat) (a0_0 : Int) (a0_1 : Bool) (a0_2 : Bool) (a0_3 : Int) (a0_4 : Int) (a0_5 : Int) (a0_6 : Int) (a0_7 : Int) (a0_8 : Int) (a0_9 : Int) (a0_10 : Int) (a0_11 : Int) (a1 : Bool) (r : List Int) (w : World) (h : magnetoref06_Encode.f k a0_0 a0_1 a0_2 a0_3 a0_4 a0_5 a0_6 a0_7 a0_8 a0_9 a0_10 a0_11 a1 = some r) :
  Calls Try.prog 41 #[.agg #[.int .i64 a0_0, .bool a0_1, .bool a0_2, .int .i64 a0_3, .int .u8 a0_4, .int .u8 a0_5, .int .u8 a0_6, .int .u8 a0_7, .int .u8 a0_8, .int .u8 a0_9, .int .u8 a0_10, .int .u8 a0_11], .bool a1] w fun e w' => ∃ v0_ : Value, e = .returned (v0_) ∧ Kd.R (Kd.int .i64) 3 w' w.heap.size (fun _ => True) v0_ r ∧ Below w.heap.size w w' := by
 have hu24 := Try.underlying24
 have HB := Aside0.mk (Below.refl w.heap.size w)
 have H : ((magnetoref04_Bits.f k a0_0 a0_1 a0_2 a0_3 a0_4 a0_5 a0_6 a0_7 a0_8 a0_9 a0_10 a0_11).bind fun t951 => ((magnetoref04_Sum.f k t951).bind fun t954 => (if t951.length + t954.length < 17592186044416 then ((magnetoref05_Add.f k (t951 ++ t954)).bind fun t960 => ((some (([1, 1] : List Int) : List Int)).bind fun y963 => (if t960.length + y963.length < 17592186044416 then ((some (t960 ++ y963 : List Int)).bind fun y966 => (if a1 = true then (if 0 ≤ (wrap64 ((y966.length : Int) - 1)) then (if (wrap64 ((y966.length : Int) - 1)) < (y966.length : Int) then ((some (y966.set ((wrap64 ((y966.length : Int) - 1)) : Int).toNat 0 : List Int)).bind fun y969 => ((some (([1, 1, 1, 1, 1, 1, 1, 1] : List Int) : List Int)).bind fun y970 => (if y969.length + y970.length < 17592186044416 then (some (y969 ++ y970)) else (none)))) else (none)) else (none)) else ((some (([1, 1, 1, 1, 1, 1, 1, 1] : List Int) : List Int)).bind fun y976 => (if y966.length + y976.length < 17592186044416 then (some (y966 ++ y976)) else (none))))) else (none)))) else (none)))) = some r := h
 clear h
 replace H := Option.bind_eq_some_iff.mp H
 obtain ⟨t951, A30, H⟩ := H
 replace H : ((magnetoref04_Sum.f k t951).bind fun t954 => (if t951.length + t954.length < 17592186044416 then ((magnetoref05_Add.f k (t951 ++ t954)).bind fun t960 => ((some (([1, 1] : List Int) : List Int)).bind fun y963 => (if t960.length + y963.length < 17592186044416 then ((some (t960 ++ y963 : List Int)).bind fun y966 => (if a1 = true then (if 0 ≤ (wrap64 ((y966.length : Int) - 1)) then (if (wrap64 ((y966.length : Int) - 1)) < (y966.length : Int) then ((some (y966.set ((wrap64 ((y966.length : Int) - 1)) : Int).toNat 0 : List Int)).bind fun y969 => ((some (([1, 1, 1, 1, 1, 1, 1, 1] : List Int) : List Int)).bind fun y970 => (if y969.length + y970.length < 17592186044416 then (some (y969 ++ y970)) else (none)))) else (none)) else (none)) else ((some (([1, 1, 1, 1, 1, 1, 1, 1] : List Int) : List Int)).bind fun y976 => (if y966.length + y976.length < 17592186044416 then (some (y966 ++ y976)) else (none))))) else (none)))) else (none))) = some r := H
 have A3 := Aside0.mk A30
 clear A30
 replace H := Option.bind_eq_some_iff.mp H
 obtain ⟨t954, A40, H⟩ := H
 replace H : (if t951.length + t954.length < 17592186044416 then ((magnetoref05_Add.f k (t951 ++ t954)).bind fun t960 => ((some (([1, 1] : List Int) : List Int)).bind fun y963 => (if t960.length + y963.length < 17592186044416 then ((some (t960 ++ y963 : List Int)).bind fun y966 => (if a1 = true then (if 0 ≤ (wrap64 ((y966.length : Int) - 1)) then (if (wrap64 ((y966.length : Int) - 1)) < (y966.length : Int) then ((some (y966.set ((wrap64 ((y966.length : Int) - 1)) : Int).toNat 0 : List Int)).bind fun y969 => ((some (([1, 1, 1, 1, 1, 1, 1, 1] : List Int) : List Int)).bind fun y970 => (if y969.length + y970.length < 17592186044416 then (some (y969 ++ y970)) else (none)))) else (none)) else (none)) else ((some (([1, 1, 1, 1, 1, 1, 1, 1] : List Int) : List Int)).bind fun y976 => (if y966.length + y976.length < 17592186044416 then (some (y966 ++ y976)) else (none))))) else (none)))) else (none)) = some r := H
 have A4 := Aside0.mk A40
 clear A40
 by_cases c5 : t951.length + t954.length < 17592186044416
 ·
  rw [if_pos c5] at H
  have LMc5 := Aside0.mk c5
  clear c5
  obtain ⟨y957, hy957⟩ : ∃ y_ : List Int, y_ = (t951 ++ t954) := ⟨_, rfl⟩
  replace H : ((magnetoref05_Add.f k y957).bind fun t960 => ((some (([1, 1] : List Int) : List Int)).bind fun y963 => (if t960.length + y963.length < 17592186044416 then ((some (t960 ++ y963 : List Int)).bind fun y966 => (if a1 = true then (if 0 ≤ (wrap64 ((y966.length : Int) - 1)) then (if (wrap64 ((y966.length : Int) - 1)) < (y966.length : Int) then ((some (y966.set ((wrap64 ((y966.length : Int) - 1)) : Int).toNat 0 : List Int)).bind fun y969 => ((some (([1, 1, 1, 1, 1, 1, 1, 1] : List Int) : List Int)).bind fun y970 => (if y969.length + y970.length < 17592186044416 then (some (y969 ++ y970)) else (none)))) else (none)) else (none)) else ((some (([1, 1, 1, 1, 1, 1, 1, 1] : List Int) : List Int)).bind fun y976 => (if y966.length + y976.length < 17592186044416 then (some (y966 ++ y976)) else (none))))) else (none)))) = some r := by first | (rw [hy957]; with_reducible exact H) | (have H2_ := (Option.bind_some _ _).symm.trans H; rw [hy957]; with_reducible exact H2_) | (have H2_ := (Option.bind_some _ _).symm.trans H; with_reducible exact H2_) | with_reducible exact H | (rw [hy957]; exact H) | exact H
  have Ny957 := Aside0.mk hy957
  clear hy957
  replace H := Option.bind_eq_some_iff.mp H
  obtain ⟨t960, A60, H⟩ := H
  replace H : ((some (([1, 1] : List Int) : List Int)).bind fun y963 => (if t960.length + y963.length < 17592186044416 then ((some (t960 ++ y963 : List Int)).bind fun y966 => (if a1 = true then (if 0 ≤ (wrap64 ((y966.length : Int) - 1)) then (if (wrap64 ((y966.length : Int) - 1)) < (y966.length : Int) then ((some (y966.set ((wrap64 ((y966.length : Int) - 1)) : Int).toNat 0 : List Int)).bind fun y969 => ((some (([1, 1, 1, 1, 1, 1, 1, 1] : List Int) : List Int)).bind fun y970 => (if y969.length + y970.length < 17592186044416 then (some (y969 ++ y970)) else (none)))) else (none)) else (none)) else ((some (([1, 1, 1, 1, 1, 1, 1, 1] : List Int) : List Int)).bind fun y976 => (if y966.length + y976.length < 17592186044416 then (some (y966 ++ y976)) else (none))))) else (none))) = some r := H
  have A6 := Aside0.mk A60
  clear A60
  obtain ⟨y963, hy963⟩ : ∃ y_ : List Int, y_ = (([1, 1] : List Int)) := ⟨_, rfl⟩
  replace H : (if t960.length + y963.length < 17592186044416 then ((some (t960 ++ y963 : List Int)).bind fun y966 => (if a1 = true then (if 0 ≤ (wrap64 ((y966.length : Int) - 1)) then (if (wrap64 ((y966.length : Int) - 1)) < (y966.length : Int) then ((some (y966.set ((wrap64 ((y966.length : Int) - 1)) : Int).toNat 0 : List Int)).bind fun y969 => ((some (([1, 1, 1, 1, 1, 1, 1, 1] : List Int) : List Int)).bind fun y970 => (if y969.length + y970.length < 17592186044416 then (some (y969 ++ y970)) else (none)))) else (none)) else (none)) else ((some (([1, 1, 1, 1, 1, 1, 1, 1] : List Int) : List Int)).bind fun y976 => (if y966.length + y976.length < 17592186044416 then (some (y966 ++ y976)) else (none))))) else (none)) = some r := by first | (rw [hy963]; with_reducible exact H) | (have H2_ := (Option.bind_some _ _).symm.trans H; rw [hy963]; with_reducible exact H2_) | (have H2_ := (Option.bind_some _ _).symm.trans H; with_reducible exact H2_) | with_reducible exact H | (rw [hy963]; exact H) | exact H
  have Ny963 := Aside0.mk hy963
  clear hy963
  by_cases c7 : t960.length + y963.length < 17592186044416
  ·
   rw [if_pos c7] at H
   have LMc7 := Aside0.mk c7
   clear c7
   obtain ⟨y966, hy966⟩ : ∃ y_ : List Int, y_ = (t960 ++ y963) := ⟨_, rfl⟩
   replace H : (if a1 = true then (if 0 ≤ (wrap64 ((y966.length : Int) - 1)) then (if (wrap64 ((y966.length : Int) - 1)) < (y966.length : Int) then ((some (y966.set ((wrap64 ((y966.length : Int) - 1)) : Int).toNat 0 : List Int)).bind fun y969 => ((some (([1, 1, 1, 1, 1, 1, 1, 1] : List Int) : List Int)).bind fun y970 => (if y969.length + y970.length < 17592186044416 then (some (y969 ++ y970)) else (none)))) else (none)) else (none)) else ((some (([1, 1, 1, 1, 1, 1, 1, 1] : List Int) : List Int)).bind fun y976 => (if y966.length + y976.length < 17592186044416 then (some (y966 ++ y976)) else (none)))) = some r := by first | (rw [hy966]; with_reducible exact H) | (have H2_ := (Option.bind_some _ _).symm.trans H; rw [hy966]; with_reducible exact H2_) | (have H2_ := (Option.bind_some _ _).symm.trans H; with_reducible exact H2_) | with_reducible exact H | (rw [hy966]; exact H) | exact H
   have Ny966 := Aside0.mk hy966
   clear hy966
   by_cases c8 : a1 = true
   ·
    subst c8
    have H1 : (if 0 ≤ (wrap64 ((y966.length : Int) - 1)) then (if (wrap64 ((y966.length : Int) - 1)) < (y966.length : Int) then ((some (y966.set ((wrap64 ((y966.length : Int) - 1)) : Int).toNat 0 : List Int)).bind fun y969 => ((some (([1, 1, 1, 1, 1, 1, 1, 1] : List Int) : List Int)).bind fun y970 => (if y969.length + y970.length < 17592186044416 then (some (y969 ++ y970)) else (none)))) else (none)) else (none)) = some r := by rw [if_pos rfl] at H; exact H
    clear H
    have H := H1
    clear H1
    obtain ⟨ji9, hji9⟩ : ∃ j_ : Int, (wrap64 ((y966.length : Int) - 1)) = j_ := ⟨_, rfl⟩
    replace H : (if 0 ≤ (ji9) then (if (ji9) < (y966.length : Int) then ((some (y966.set ((ji9) : Int).toNat 0 : List Int)).bind fun y969 => ((some (([1, 1, 1, 1, 1, 1, 1, 1] : List Int) : List Int)).bind fun y970 => (if y969.length + y970.length < 17592186044416 then (some (y969 ++ y970)) else (none)))) else (none)) else (none)) = some r := by first | (rw [hji9] at H; exact H) | (simp only [hji9] at H ⊢; exact H)
    (try rw [hji9] at A3)
    (try rw [hji9] at A4)
    (try rw [hji9] at A6)
    have hji9w : (IntKind.i64.wrap ((y966.length : Int) - 1)) = ji9 := (i64_w _).trans hji9
    by_cases c10 : 0 ≤ (ji9)
    ·
     rw [if_pos c10] at H
     have c10b0 : decide (0 ≤ (ji9)) = true := decide_eq_true c10
     clear c10
     by_cases c11 : (ji9) < (y966.length : Int)
     ·
      rw [if_pos c11] at H
      have c11b0 : decide ((ji9) < (y966.length : Int)) = true := decide_eq_true c11
      clear c11
      obtain ⟨y969, hy969⟩ : ∃ y_ : List Int, y_ = (y966.set ((ji9) : Int).toNat 0) := ⟨_, rfl⟩
      replace H : ((some (([1, 1, 1, 1, 1, 1, 1, 1] : List Int) : List Int)).bind fun y970 => (if y969.length + y970.length < 17592186044416 then (some (y969 ++ y970)) else (none))) = some r := by first | (rw [hy969]; with_reducible exact H) | (have H2_ := (Option.bind_some _ _).symm.trans H; rw [hy969]; with_reducible exact H2_) | (have H2_ := (Option.bind_some _ _).symm.trans H; with_reducible exact H2_) | with_reducible exact H | (rw [hy969]; exact H) | exact H
      have Ny969 := Aside0.mk hy969
      clear hy969
      obtain ⟨y970, hy970⟩ : ∃ y_ : List Int, y_ = (([1, 1, 1, 1, 1, 1, 1, 1] : List Int)) := ⟨_, rfl⟩
      replace H : (if y969.length + y970.length < 17592186044416 then (some (y969 ++ y970)) else (none)) = some r := by first | (rw [hy970]; with_reducible exact H) | (have H2_ := (Option.bind_some _ _).symm.trans H; rw [hy970]; with_reducible exact H2_) | (have H2_ := (Option.bind_some _ _).symm.trans H; with_reducible exact H2_) | with_reducible exact H | (rw [hy970]; exact H) | exact H
      have Ny970 := Aside0.mk hy970
      clear hy970
      by_cases c13 : y969.length + y970.length < 17592186044416
      ·
       rw [if_pos c13] at H
       have LMc13 := Aside0.mk c13
       clear c13
       obtain ⟨y973, hy973⟩ : ∃ y_ : List Int, y_ = (y969 ++ y970) := ⟨_, rfl⟩
       replace H : (some y973) = some r := by first | (rw [hy973]; with_reducible exact H) | (have H2_ := (Option.bind_some _ _).symm.trans H; rw [hy973]; with_reducible exact H2_) | (have H2_ := (Option.bind_some _ _).symm.trans H; with_reducible exact H2_) | with_reducible exact H | (rw [hy973]; exact H) | exact H
       have Ny973 := Aside0.mk hy973
       clear hy973
       obtain rfl := Option.some.inj H
       go_enter Try.func41, Try.ntmps41
       go_wp2_with (first | ((with_reducible refine zqar (N := 2) rfl ?_); refine zqav ?hg (N := 2) ?hd (cs := #[.int .i64 a0_0, .bool a0_1, .bool a0_2, .int .i64 a0_3, .int .u8 a0_4, .int .u8 a0_5, .int .u8 a0_6, .int .u8 a0_7, .int .u8 a0_8, .int .u8 a0_9, .int .u8 a0_10, .int .u8 a0_11]) (t := 24) ?hr ?_; (case hd => rfl); (case hg => rfl); (case hr => first | (go_simp; done) | (go_simp; rfl)); intro gb950 hg w14 hbox hb; have n0_ := Aside0.mk (zqak (by repeat (with_reducible first | exact HB.out | apply zqad | apply zqac | apply zqae)) hb); have n1_ := Aside0.mk (hbox); have n2_ := Aside0.mk ((by rw [hg]; exact (zqaj (by repeat (with_reducible first | exact HB.out | apply zqad | apply zqac | apply zqae))) : w.heap.size ≤ gb950)); have n3_ := Aside0.mk ((by rw [hg]; exact (zqaj (by repeat (with_reducible first | exact HB.out | apply zqad | apply zqac | apply zqae))) : w.heap.size ≤ gb950)); clear HB; have HB := n0_; have BK950 := n1_; have GW950 := n2_; have GE950 := n3_; clear n0_ n1_ n2_ n3_; clear hb hbox hg; have hcz15_0 : w14.cell? ⟨gb950, 0, none⟩ = some (.int .i64 a0_0) := (zqab BK950.out 0).trans rfl; have hcz15_1 : w14.cell? ⟨gb950, 1, none⟩ = some (.bool a0_1) := (zqab BK950.out 1).trans rfl; have hcz15_2 : w14.cell? ⟨gb950, 2, none⟩ = some (.bool a0_2) := (zqab BK950.out 2).trans rfl; have hcz15_3 : w14.cell? ⟨gb950, 3, none⟩ = some (.int .i64 a0_3) := (zqab BK950.out 3).trans rfl; have hcz15_4 : w14.cell? ⟨gb950, 4, none⟩ = some (.int .u8 a0_4) := (zqab BK950.out 4).trans rfl; have hcz15_5 : w14.cell? ⟨gb950, 5, none⟩ = some (.int .u8 a0_5) := (zqab BK950.out 5).trans rfl; have hcz15_6 : w14.cell? ⟨gb950, 6, none⟩ = some (.int .u8 a0_6) := (zqab BK950.out 6).trans rfl; have hcz15_7 : w14.cell? ⟨gb950, 7, none⟩ = some (.int .u8 a0_7) := (zqab BK950.out 7).trans rfl; have hcz15_8 : w14.cell? ⟨gb950, 8, none⟩ = some (.int .u8 a0_8) := (zqab BK950.out 8).trans rfl; have hcz15_9 : w14.cell? ⟨gb950, 9, none⟩ = some (.int .u8 a0_9) := (zqab BK950.out 9).trans rfl; have hcz15_10 : w14.cell? ⟨gb950, 10, none⟩ = some (.int .u8 a0_10) := (zqab BK950.out 10).trans rfl; have hcz15_11 : w14.cell? ⟨gb950, 11, none⟩ = some (.int .u8 a0_11) := (zqab BK950.out 11).trans rfl; have hfz15_0 := zqaa BK950.out 0; have hfz15_1 := zqaa BK950.out 1; have hfz15_2 := zqaa BK950.out 2; have hfz15_3 := zqaa BK950.out 3; have hfz15_4 := zqaa BK950.out 4; have hfz15_5 := zqaa BK950.out 5; have hfz15_6 := zqaa BK950.out 6; have hfz15_7 := zqaa BK950.out 7; have hfz15_8 := zqaa BK950.out 8; have hfz15_9 := zqaa BK950.out 9; have hfz15_10 := zqaa BK950.out 10; have hfz15_11 := zqaa BK950.out 11) | ((with_reducible refine zqal (f := 21) rfl ?_); refine goesL_ (some 8) rfl rfl Try.func21 (by kernel_rfl) rfl #[.agg #[.int .i64 a0_0, .bool a0_1, .bool a0_2, .int .i64 a0_3, .int .u8 a0_4, .int .u8 a0_5, .int .u8 a0_6, .int .u8 a0_7, .int .u8 a0_8, .int .u8 a0_9, .int .u8 a0_10, .int .u8 a0_11]] rfl (by (try simp only [List.map_toArray, List.map_cons, List.map_nil]); first | done | rfl | (simp only [List.length_drop, List.length_take]; rfl)) ?_; (with_reducible refine (magnetoref04_Bits.calls k a0_0 a0_1 a0_2 a0_3 a0_4 a0_5 a0_6 a0_7 a0_8 a0_9 a0_10 a0_11 t951 _ A3.out).mono ?_); rintro e w16 ⟨v952, rfl, ho0, hb⟩; refine ⟨_, rfl, ?_⟩; have n0_ := Aside0.mk (Kd.R_lower ho0 (zqaj (by repeat (with_reducible first | exact HB.out | apply zqad | apply zqac | apply zqae | refine zqah ?_ GE950.out)))); have n1_ := Aside0.mk (zqam (g := gb950) (o := .cells #[.int .i64 a0_0, .bool a0_1, .bool a0_2, .int .i64 a0_3, .int .u8 a0_4, .int .u8 a0_5, .int .u8 a0_6, .int .u8 a0_7, .int .u8 a0_8, .int .u8 a0_9, .int .u8 a0_10, .int .u8 a0_11] 24 (0, 0)) (by (with_reducible repeat (first | refine zqag ?_ _ | refine zqai ?_ | refine zqaf ?_ _)); exact BK950.out) hb); have n2_ := Aside0.mk (zqak (by repeat (with_reducible first | exact HB.out | apply zqad | apply zqac | apply zqae | refine zqah ?_ GE950.out)) hb); clear BK950; clear HB; have HO953 := n0_; have BK950 := n1_; have HB := n2_; clear n0_ n1_ n2_; (try clear hb); (try clear hb2); (try clear hk); (try clear hi); (try clear ho0); obtain ⟨Ao17, co17, eo17⟩ := Kd.R_slice HO953.out; subst eo17) | ((with_reducible refine zqal (f := 32) rfl ?_); refine goesL_ (some 11) rfl rfl Try.func32 (by kernel_rfl) rfl #[.slice Ao17 t951.length co17] rfl (by (try simp only [List.map_toArray, List.map_cons, List.map_nil]); first | done | rfl | (simp only [List.length_drop, List.length_take]; rfl)) ?_; (with_reducible refine (magnetoref04_Sum.calls k _ _ t951 t954 _ ?side1 ?side2 A4.out).mono ?_); (case side1 => repeat (first | exact (Kd.R_reads' HO953.out).2.2 | (with_reducible refine Kd.C_alloc ?_ _) | (with_reducible refine Kd.C_drewN ?_ _) | (with_reducible refine Kd.C_drew ?_))); (case side2 => exact (Kd.R_reads' HO953.out).2.1); rintro e w18 ⟨v955, rfl, ho0, hb⟩; refine ⟨_, rfl, ?_⟩; have n0_ := Aside0.mk (Kd.R_elder' (by (with_reducible repeat (first | apply Kd.R_alloc | apply Kd.R_drewN | apply Kd.R_drew)); exact HO953.out) (Kd.R_base ho0) hb); have n1_ := Aside0.mk (Kd.R_lower (Kd.R_new' ho0 (Kd.R_lt (by (with_reducible repeat (first | apply Kd.R_alloc | apply Kd.R_drewN | apply Kd.R_drew)); exact HO953.out))) (zqaj (by repeat (with_reducible first | exact HB.out | apply zqad | apply zqac | apply zqae | refine zqah ?_ GE950.out)))); have n2_ := Aside0.mk (zqam (g := gb950) (o := .cells #[.int .i64 a0_0, .bool a0_1, .bool a0_2, .int .i64 a0_3, .int .u8 a0_4, .int .u8 a0_5, .int .u8 a0_6, .int .u8 a0_7, .int .u8 a0_8, .int .u8 a0_9, .int .u8 a0_10, .int .u8 a0_11] 24 (0, 0)) (by (with_reducible repeat (first | refine zqag ?_ _ | refine zqai ?_ | refine zqaf ?_ _)); exact BK950.out) hb); have n3_ := Aside0.mk (zqak (by repeat (with_reducible first | exact HB.out | apply zqad | apply zqac | apply zqae | refine zqah ?_ GE950.out)) hb); clear HO953; clear BK950; clear HB; have HO953 := n0_; have HO956 := n1_; have BK950 := n2_; have HB := n3_; clear n0_ n1_ n2_ n3_; (try clear hb); (try clear hb2); (try clear hk); (try clear hi); (try clear ho0); obtain ⟨Ao20, co20, eo20⟩ := Kd.R_slice HO956.out; subst eo20) | ((with_reducible refine zqao (b := .append) (xs := #[.tmp 9, .tmp 11]) rfl ?_); at_builtin; refine Kd.R_append_rows (Kd.int .i64) (w0 := w) w.heap.size rfl (.tmp 9) (.tmp 11) 25 3 (.int .i64 0) 8 rfl Try.underlying25 info3 rfl (by decide) (by omega) (.slice Ao17 t951.length co17) t951 t954 _ _ _ (fun k_ => some k_ ≠ (.slice Ao20 t954.length co20 : Value).ownBlock) (fun _ => False) rfl rfl ?aO ?aR (fun _ _ h => h) (fun _ h => h.elim) ?aF ?aB ?aS ?aL ?_; (case aR => repeat (first | exact (Kd.R_reads' HO956.out).2.2 | (with_reducible refine Kd.C_alloc ?_ _) | (with_reducible refine Kd.C_drewN ?_ _) | (with_reducible refine Kd.C_drew ?_))); (case aB => exact (by repeat (with_reducible first | exact HB.out | apply zqad | apply zqac | apply zqae | refine zqah ?_ GE950.out))); (case aF => exact (fun k_ hk => Kd.fresh' (Kd.R_lt (by (with_reducible repeat (first | apply Kd.R_alloc | apply Kd.R_drewN | apply Kd.R_drew)); exact HO956.out)) k_ hk)); (case aO => exact (by (with_reducible repeat (first | apply Kd.R_alloc | apply Kd.R_drewN | apply Kd.R_drew)); exact Kd.R_mono HO953.out (fun _ hk => hk.2))); (case aS => exact (zqaj (by repeat (with_reducible first | exact HB.out | apply zqad | apply zqac | apply zqae | refine zqah ?_ GE950.out)))); (case aL => have := LMc5.out; omega); intro v958 w19 ho hb hg hat; rw [← Ny957.out] at ho; have n0_ := Aside0.mk (zqaw (g := gb950) (o := .cells #[.int .i64 a0_0, .bool a0_1, .bool a0_2, .int .i64 a0_3, .int .u8 a0_4, .int .u8 a0_5, .int .u8 a0_6, .int .u8 a0_7, .int .u8 a0_8, .int .u8 a0_9, .int .u8 a0_10, .int .u8 a0_11] 24 (0, 0)) (by (with_reducible repeat (first | refine zqag ?_ _ | refine zqai ?_ | refine zqaf ?_ _)); exact BK950.out) hg (Kd.R_ne HO953.out BK950.out (by decide))); have n1_ := Aside0.mk (Kd.R_after (ok := (fun _ => True)) (by (with_reducible repeat (first | apply Kd.R_alloc | apply Kd.R_drewN | apply Kd.R_drew)); exact HO956.out) hg hat); have n2_ := Aside0.mk (hb); have n3_ := Aside0.mk (ho); clear BK950; clear HO956; clear HB; clear HO953; have BK950 := n0_; have HO956 := n1_; have HB := n2_; have HO959 := n3_; clear n0_ n1_ n2_ n3_; clear ho hb hg hat; obtain ⟨Ao21, co21, eo21⟩ := Kd.R_slice HO959.out; subst eo21) | ((with_reducible refine zqal (f := 66) rfl ?_); refine goesL_ (some 14) rfl rfl Try.func66 (by kernel_rfl) rfl #[.slice Ao21 y957.length co21] rfl (by (try simp only [List.map_toArray, List.map_cons, List.map_nil]); first | done | rfl | (simp only [List.length_drop, List.length_take]; rfl)) ?_; (with_reducible refine (magnetoref05_Add.calls k _ _ y957 t960 _ ?side1 ?side2 A6.out).mono ?_); (case side1 => repeat (first | exact (Kd.R_reads' HO959.out).2.2 | (with_reducible refine Kd.C_alloc ?_ _) | (with_reducible refine Kd.C_drewN ?_ _) | (with_reducible refine Kd.C_drew ?_))); (case side2 => exact (Kd.R_reads' HO959.out).2.1); rintro e w22 ⟨v961, rfl, ho0, hb⟩; refine ⟨_, rfl, ?_⟩; have n0_ := Aside0.mk (Kd.R_elder' (by (with_reducible repeat (first | apply Kd.R_alloc | apply Kd.R_drewN | apply Kd.R_drew)); exact HO956.out) (Kd.R_base ho0) hb); have n1_ := Aside0.mk (Kd.R_elder' (by (with_reducible repeat (first | apply Kd.R_alloc | apply Kd.R_drewN | apply Kd.R_drew)); exact HO959.out) (Kd.R_base ho0) hb); have n2_ := Aside0.mk (Kd.R_lower (Kd.R_new' (Kd.R_new' ho0 (Kd.R_lt (by (with_reducible repeat (first | apply Kd.R_alloc | apply Kd.R_drewN | apply Kd.R_drew)); exact HO956.out))) (Kd.R_lt (by (with_reducible repeat (first | apply Kd.R_alloc | apply Kd.R_drewN | apply Kd.R_drew)); exact HO959.out))) (zqaj (by repeat (with_reducible first | exact HB.out | apply zqad | apply zqac | apply zqae | refine zqah ?_ GE950.out)))); have n3_ := Aside0.mk (zqam (g := gb950) (o := .cells #[.int .i64 a0_0, .bool a0_1, .bool a0_2, .int .i64 a0_3, .int .u8 a0_4, .int .u8 a0_5, .int .u8 a0_6, .int .u8 a0_7, .int .u8 a0_8, .int .u8 a0_9, .int .u8 a0_10, .int .u8 a0_11] 24 (0, 0)) (by (with_reducible repeat (first | refine zqag ?_ _ | refine zqai ?_ | refine zqaf ?_ _)); exact BK950.out) hb); have n4_ := Aside0.mk (zqak (by repeat (with_reducible first | exact HB.out | apply zqad | apply zqac | apply zqae | refine zqah ?_ GE950.out)) hb); clear HO956; clear HO959; clear BK950; clear HB; have HO956 := n0_; have HO959 := n1_; have HO962 := n2_; have BK950 := n3_; have HB := n4_; clear n0_ n1_ n2_ n3_ n4_; (try clear hb); (try clear hb2); (try clear hk); (try clear hi); (try clear ho0)) | ((with_reducible refine zqar (N := 15) rfl ?_); refine Kd.R_lit (Kd.int .i64) _ 3 ?hg (N := 15) ?hd (xs := ([1, 1] : List Int)) (inner := [.int .i64 1, .int .i64 1]) (ok := fun _ => True) (okp := fun _ => True) ?hr ?hp (fun _ hk => hk) trivial (Below.refl _ _) (Nat.le_refl _) (by simp) ?_; (case hd => rfl); (case hg => rfl); (case hr => first | (go_simp; done) | (go_simp; rfl)); (case hp => exact (Reps.one (show Kd.M (Kd.int .i64) _ _ _ 1 [.int .i64 1] from rfl) (Reps.one (show Kd.M (Kd.int .i64) _ _ _ 1 [.int .i64 1] from rfl) (Reps.none _ _)))); intro v964 w23 ho24 hb hg_ hnew_; clear hg_ hnew_; (first | rw [← Ny963.out] at ho24 | (simp only [Int.reduceToNat] at ho24; rw [← Ny963.out] at ho24)); have n0_ := Aside0.mk (Kd.R_elder' (by (with_reducible repeat (first | apply Kd.R_alloc | apply Kd.R_drewN | apply Kd.R_drew)); exact HO956.out) (Kd.R_base ho24) hb); have n1_ := Aside0.mk (Kd.R_elder' (by (with_reducible repeat (first | apply Kd.R_alloc | apply Kd.R_drewN | apply Kd.R_drew)); exact HO959.out) (Kd.R_base ho24) hb); have n2_ := Aside0.mk (Kd.R_elder' (by (with_reducible repeat (first | apply Kd.R_alloc | apply Kd.R_drewN | apply Kd.R_drew)); exact HO962.out) (Kd.R_base ho24) hb); have n3_ := Aside0.mk (Kd.R_lower (Kd.R_new' (Kd.R_new' (Kd.R_new' ho24 (Kd.R_lt (by (with_reducible repeat (first | apply Kd.R_alloc | apply Kd.R_drewN | apply Kd.R_drew)); exact HO956.out))) (Kd.R_lt (by (with_reducible repeat (first | apply Kd.R_alloc | apply Kd.R_drewN | apply Kd.R_drew)); exact HO959.out))) (Kd.R_lt (by (with_reducible repeat (first | apply Kd.R_alloc | apply Kd.R_drewN | apply Kd.R_drew)); exact HO962.out))) (zqaj (by repeat (with_reducible first | exact HB.out | apply zqad | apply zqac | apply zqae | refine zqah ?_ GE950.out)))); have n4_ := Aside0.mk (zqam (g := gb950) (o := .cells #[.int .i64 a0_0, .bool a0_1, .bool a0_2, .int .i64 a0_3, .int .u8 a0_4, .int .u8 a0_5, .int .u8 a0_6, .int .u8 a0_7, .int .u8 a0_8, .int .u8 a0_9, .int .u8 a0_10, .int .u8 a0_11] 24 (0, 0)) (by (with_reducible repeat (first | refine zqag ?_ _ | refine zqai ?_ | refine zqaf ?_ _)); exact BK950.out) hb); have n5_ := Aside0.mk (zqak (by repeat (with_reducible first | exact HB.out | apply zqad | apply zqac | apply zqae | refine zqah ?_ GE950.out)) hb); clear HO956; clear HO959; clear HO962; clear BK950; clear HB; have HO956 := n0_; have HO959 := n1_; have HO962 := n2_; have HO965 := n3_; have BK950 := n4_; have HB := n5_; clear n0_ n1_ n2_ n3_ n4_ n5_; clear hb ho24; obtain ⟨Ao26, co26, eo26⟩ := Kd.R_slice HO965.out; subst eo26) | ((with_reducible refine zqao (b := .append) (xs := #[.tmp 14, .tmp 15]) rfl ?_); at_builtin; refine Kd.R_append_rows (Kd.int .i64) (w0 := w) w.heap.size rfl (.tmp 14) (.tmp 15) 25 3 (.int .i64 0) 8 rfl Try.underlying25 info3 rfl (by decide) (by omega) v961 t960 y963 _ _ _ (fun k_ => some k_ ≠ (.slice Ao20 t954.length co20 : Value).ownBlock ∧ some k_ ≠ (.slice Ao21 y957.length co21 : Value).ownBlock ∧ some k_ ≠ (.slice Ao26 y963.length co26 : Value).ownBlock) (fun _ => False) rfl rfl ?aO ?aR (fun _ _ h => h) (fun _ h => h.elim) ?aF ?aB ?aS ?aL ?_; (case aR => repeat (first | exact (Kd.R_reads' HO965.out).2.2 | (with_reducible refine Kd.C_alloc ?_ _) | (with_reducible refine Kd.C_drewN ?_ _) | (with_reducible refine Kd.C_drew ?_))); (case aB => exact (by repeat (with_reducible first | exact HB.out | apply zqad | apply zqac | apply zqae | refine zqah ?_ GE950.out))); (case aF => exact (fun k_ hk => ⟨Kd.fresh' (Kd.R_lt (by (with_reducible repeat (first | apply Kd.R_alloc | apply Kd.R_drewN | apply Kd.R_drew)); exact HO956.out)) k_ hk, Kd.fresh' (Kd.R_lt (by (with_reducible repeat (first | apply Kd.R_alloc | apply Kd.R_drewN | apply Kd.R_drew)); exact HO959.out)) k_ hk, Kd.fresh' (Kd.R_lt (by (with_reducible repeat (first | apply Kd.R_alloc | apply Kd.R_drewN | apply Kd.R_drew)); exact HO965.out)) k_ hk⟩)); (case aO => exact (by (with_reducible repeat (first | apply Kd.R_alloc | apply Kd.R_drewN | apply Kd.R_drew)); exact Kd.R_mono HO962.out (fun _ hk => ⟨hk.1.1.2, ⟨hk.1.2, hk.2⟩⟩))); (case aS => exact (zqaj (by repeat (with_reducible first | exact HB.out | apply zqad | apply zqac | apply zqae | refine zqah ?_ GE950.out)))); (case aL => have := LMc7.out; omega); intro v967 w25 ho hb hg hat; rw [← Ny966.out] at ho; have n0_ := Aside0.mk (zqaw (g := gb950) (o := .cells #[.int .i64 a0_0, .bool a0_1, .bool a0_2, .int .i64 a0_3, .int .u8 a0_4, .int .u8 a0_5, .int .u8 a0_6, .int .u8 a0_7, .int .u8 a0_8, .int .u8 a0_9, .int .u8 a0_10, .int .u8 a0_11] 24 (0, 0)) (by (with_reducible repeat (first | refine zqag ?_ _ | refine zqai ?_ | refine zqaf ?_ _)); exact BK950.out) hg (Kd.R_ne HO962.out BK950.out (by decide))); have n1_ := Aside0.mk (Kd.R_after (ok := (fun k_ => some k_ ≠ (.slice Ao21 y957.length co21 : Value).ownBlock ∧ some k_ ≠ (.slice Ao26 y963.length co26 : Value).ownBlock)) (by (with_reducible repeat (first | apply Kd.R_alloc | apply Kd.R_drewN | apply Kd.R_drew)); exact Kd.R_mono HO956.out (fun _ hk => ⟨⟨hk.1.1.2, hk.2⟩, hk.1.2⟩)) hg hat); have n2_ := Aside0.mk (Kd.R_after (ok := (fun k_ => some k_ ≠ (.slice Ao20 t954.length co20 : Value).ownBlock ∧ some k_ ≠ (.slice Ao26 y963.length co26 : Value).ownBlock)) (by (with_reducible repeat (first | apply Kd.R_alloc | apply Kd.R_drewN | apply Kd.R_drew)); exact Kd.R_mono HO959.out (fun _ hk => ⟨⟨hk.1.1, hk.2⟩, hk.1.2⟩)) hg hat); have n3_ := Aside0.mk (Kd.R_after (ok := (fun k_ => some k_ ≠ (.slice Ao20 t954.length co20 : Value).ownBlock ∧ some k_ ≠ (.slice Ao21 y957.length co21 : Value).ownBlock)) (by (with_reducible repeat (first | apply Kd.R_alloc | apply Kd.R_drewN | apply Kd.R_drew)); exact Kd.R_mono HO965.out (fun _ hk => ⟨⟨hk.1.1.2, hk.1.2⟩, hk.2⟩)) hg hat); have n4_ := Aside0.mk (hb); have n5_ := Aside0.mk (ho); clear BK950; clear HO956; clear HO959; clear HO965; clear HB; clear HO962; have BK950 := n0_; have HO956 := n1_; have HO959 := n2_; have HO965 := n3_; have HB := n4_; have HO968 := n5_; clear n0_ n1_ n2_ n3_ n4_ n5_; clear ho hb hg hat; obtain ⟨Ao27, co27, eo27⟩ := Kd.R_slice HO968.out; subst eo27; have p12 : 0 ≤ ((ji9) : Int) := of_decide_eq_true (by first | (with_reducible assumption) | assumption); have q12 : ((ji9) : Int) < ((y966.length : Int) : Int) := of_decide_eq_true (by first | (with_reducible assumption) | assumption); obtain ⟨go12, co12, eo12, gb12, gl12, cl12, HG12⟩ := Kd.R_form HO968.out (by omega); (first | cases eo12 | (injection eo12 with ea_ en_ ec_; (first | subst ea_ | (injection ea_ with ea_; subst ea_)); subst ec_; clear en_)); have GB12 := Aside0.mk gb12; have GG12 := Aside0.mk HG12; clear gb12 gl12 HG12; obtain ⟨hx12_0, hf12_0⟩ := Kd.R_celln 0 HO968.out ((ji9) : Int) p12 q12; replace p12 := eq_true p12; replace q12 := eq_true q12; obtain ⟨hy28_, hz28_⟩ := Kd.R_celln 0 HO968.out ((ji9) : Int) (of_decide_eq_true (by first | (with_reducible assumption) | assumption)) (of_decide_eq_true (by first | (with_reducible assumption) | assumption)); have HP28 := Kd.R_putg HO968.out ((ji9) : Int) 0) | ((with_reducible refine zqau (t := 3) (p := 22) rfl ?_); refine zqap (t := 3) (p := 22) (v := ?vo_w29) (w1 := (w25.setCell ⟨go12, ((ji9) : Int).toNat, none⟩ (.int .i64 0))) ?hg ?ho ?hn ?hr ?_; (case ho => rfl); (case hg => rfl); (case hn => rfl); (case hr => first | (go_simp; done) | (go_simp; rfl)); intro w29 hw; have hg : w25.grownBy w29 (some go12) := (by rw [hw]; exact HP28.2); have hp_ : Kd.R (Kd.int .i64) 3 w29 w.heap.size (fun k_ => some k_ ≠ (.slice Ao20 t954.length co20 : Value).ownBlock ∧ some k_ ≠ (.slice Ao21 y957.length co21 : Value).ownBlock ∧ some k_ ≠ (.slice Ao26 y963.length co26 : Value).ownBlock) (.slice (some ⟨go12, 0, none⟩) y966.length co27) y969 := (by rw [hw, Ny969.out]; exact HP28.1); clear HP28; have n0_ := Aside0.mk (zqaw (g := gb950) (o := .cells #[.int .i64 a0_0, .bool a0_1, .bool a0_2, .int .i64 a0_3, .int .u8 a0_4, .int .u8 a0_5, .int .u8 a0_6, .int .u8 a0_7, .int .u8 a0_8, .int .u8 a0_9, .int .u8 a0_10, .int .u8 a0_11] 24 (0, 0)) (by (with_reducible repeat (first | refine zqag ?_ _ | refine zqai ?_ | refine zqaf ?_ _)); exact BK950.out) hg (Kd.R_ne HO968.out BK950.out (by decide))); have n1_ := Aside0.mk (Kd.R_after (v := (.slice (some ⟨go12, 0, none⟩) y966.length co27)) (v1 := (.slice (some ⟨go12, 0, none⟩) y966.length co27)) (ok := (fun k_ => some k_ ≠ (.slice Ao21 y957.length co21 : Value).ownBlock ∧ some k_ ≠ (.slice Ao26 y963.length co26 : Value).ownBlock)) (by (with_reducible repeat (first | apply Kd.R_alloc | apply Kd.R_drewN | apply Kd.R_drew)); exact HO956.out) hg (.inl rfl)); have n2_ := Aside0.mk (Kd.R_after (v := (.slice (some ⟨go12, 0, none⟩) y966.length co27)) (v1 := (.slice (some ⟨go12, 0, none⟩) y966.length co27)) (ok := (fun k_ => some k_ ≠ (.slice Ao20 t954.length co20 : Value).ownBlock ∧ some k_ ≠ (.slice Ao26 y963.length co26 : Value).ownBlock)) (by (with_reducible repeat (first | apply Kd.R_alloc | apply Kd.R_drewN | apply Kd.R_drew)); exact HO959.out) hg (.inl rfl)); have n3_ := Aside0.mk (Kd.R_after (v := (.slice (some ⟨go12, 0, none⟩) y966.length co27)) (v1 := (.slice (some ⟨go12, 0, none⟩) y966.length co27)) (ok := (fun k_ => some k_ ≠ (.slice Ao20 t954.length co20 : Value).ownBlock ∧ some k_ ≠ (.slice Ao21 y957.length co21 : Value).ownBlock)) (by (with_reducible repeat (first | apply Kd.R_alloc | apply Kd.R_drewN | apply Kd.R_drew)); exact HO965.out) hg (.inl rfl)); have n4_ := Aside0.mk (hp_); have n5_ := Aside0.mk ((by rw [hw]; exact zqah (HB.out) GB12.out : Below w.heap.size w w29)); clear BK950; clear HO956; clear HO959; clear HO965; clear HO968; clear HB; have BK950 := n0_; have HO956 := n1_; have HO959 := n2_; have HO965 := n3_; have HO968 := n4_; have HB := n5_; clear n0_ n1_ n2_ n3_ n4_ n5_; clear hg hw hp_) | ((with_reducible refine zqar (N := 24) rfl ?_); refine Kd.R_lit (Kd.int .i64) _ 3 ?hg (N := 24) ?hd (xs := ([1, 1, 1, 1, 1, 1, 1, 1] : List Int)) (inner := [.int .i64 1, .int .i64 1, .int .i64 1, .int .i64 1, .int .i64 1, .int .i64 1, .int .i64 1, .int .i64 1]) (ok := fun _ => True) (okp := fun _ => True) ?hr ?hp (fun _ hk => hk) trivial (Below.refl _ _) (Nat.le_refl _) (by simp) ?_; (case hd => rfl); (case hg => rfl); (case hr => first | (go_simp; done) | (go_simp; rfl)); (case hp => exact (Reps.one (show Kd.M (Kd.int .i64) _ _ _ 1 [.int .i64 1] from rfl) (Reps.one (show Kd.M (Kd.int .i64) _ _ _ 1 [.int .i64 1] from rfl) (Reps.one (show Kd.M (Kd.int .i64) _ _ _ 1 [.int .i64 1] from rfl) (Reps.one (show Kd.M (Kd.int .i64) _ _ _ 1 [.int .i64 1] from rfl) (Reps.one (show Kd.M (Kd.int .i64) _ _ _ 1 [.int .i64 1] from rfl) (Reps.one (show Kd.M (Kd.int .i64) _ _ _ 1 [.int .i64 1] from rfl) (Reps.one (show Kd.M (Kd.int .i64) _ _ _ 1 [.int .i64 1] from rfl) (Reps.one (show Kd.M (Kd.int .i64) _ _ _ 1 [.int .i64 1] from rfl) (Reps.none _ _)))))))))); intro v971 w30 ho31 hb hg_ hnew_; clear hg_ hnew_; (first | rw [← Ny970.out] at ho31 | (simp only [Int.reduceToNat] at ho31; rw [← Ny970.out] at ho31)); have n0_ := Aside0.mk (Kd.R_elder' (by (with_reducible repeat (first | apply Kd.R_alloc | apply Kd.R_drewN | apply Kd.R_drew)); exact HO956.out) (Kd.R_base ho31) hb); have n1_ := Aside0.mk (Kd.R_elder' (by (with_reducible repeat (first | apply Kd.R_alloc | apply Kd.R_drewN | apply Kd.R_drew)); exact HO959.out) (Kd.R_base ho31) hb); have n2_ := Aside0.mk (Kd.R_elder' (by (with_reducible repeat (first | apply Kd.R_alloc | apply Kd.R_drewN | apply Kd.R_drew)); exact HO965.out) (Kd.R_base ho31) hb); have n3_ := Aside0.mk (Kd.R_elder' (by (with_reducible repeat (first | apply Kd.R_alloc | apply Kd.R_drewN | apply Kd.R_drew)); exact HO968.out) (Kd.R_base ho31) hb); have n4_ := Aside0.mk (Kd.R_lower (Kd.R_new' (Kd.R_new' (Kd.R_new' (Kd.R_new' ho31 (Kd.R_lt (by (with_reducible repeat (first | apply Kd.R_alloc | apply Kd.R_drewN | apply Kd.R_drew)); exact HO956.out))) (Kd.R_lt (by (with_reducible repeat (first | apply Kd.R_alloc | apply Kd.R_drewN | apply Kd.R_drew)); exact HO959.out))) (Kd.R_lt (by (with_reducible repeat (first | apply Kd.R_alloc | apply Kd.R_drewN | apply Kd.R_drew)); exact HO965.out))) (Kd.R_lt (by (with_reducible repeat (first | apply Kd.R_alloc | apply Kd.R_drewN | apply Kd.R_drew)); exact HO968.out))) (zqaj (by repeat (with_reducible first | exact HB.out | apply zqad | apply zqac | apply zqae | refine zqah ?_ GE950.out)))); have n5_ := Aside0.mk (zqam (g := gb950) (o := .cells #[.int .i64 a0_0, .bool a0_1, .bool a0_2, .int .i64 a0_3, .int .u8 a0_4, .int .u8 a0_5, .int .u8 a0_6, .int .u8 a0_7, .int .u8 a0_8, .int .u8 a0_9, .int .u8 a0_10, .int .u8 a0_11] 24 (0, 0)) (by (with_reducible repeat (first | refine zqag ?_ _ | refine zqai ?_ | refine zqaf ?_ _)); exact BK950.out) hb); have n6_ := Aside0.mk (zqak (by repeat (with_reducible first | exact HB.out | apply zqad | apply zqac | apply zqae | refine zqah ?_ GE950.out)) hb); clear HO956; clear HO959; clear HO965; clear HO968; clear BK950; clear HB; have HO956 := n0_; have HO959 := n1_; have HO965 := n2_; have HO968 := n3_; have HO972 := n4_; have BK950 := n5_; have HB := n6_; clear n0_ n1_ n2_ n3_ n4_ n5_ n6_; clear hb ho31; obtain ⟨Ao33, co33, eo33⟩ := Kd.R_slice HO972.out; subst eo33) | ((with_reducible refine zqao (b := .append) (xs := #[.tmp 23, .tmp 24]) rfl ?_); at_builtin; refine Kd.R_append_rows (Kd.int .i64) (w0 := w) w.heap.size rfl (.tmp 23) (.tmp 24) 25 3 (.int .i64 0) 8 rfl Try.underlying25 info3 rfl (by decide) (by omega) (.slice (some ⟨go12, 0, none⟩) y966.length co27) y969 y970 _ _ _ (fun k_ => some k_ ≠ (.slice Ao20 t954.length co20 : Value).ownBlock ∧ some k_ ≠ (.slice Ao21 y957.length co21 : Value).ownBlock ∧ some k_ ≠ (.slice Ao26 y963.length co26 : Value).ownBlock ∧ some k_ ≠ (.slice Ao33 y970.length co33 : Value).ownBlock) (fun _ => False) rfl rfl ?aO ?aR (fun _ _ h => h) (fun _ h => h.elim) ?aF ?aB ?aS ?aL ?_; (case aR => repeat (first | exact (Kd.R_reads' HO972.out).2.2 | (with_reducible refine Kd.C_alloc ?_ _) | (with_reducible refine Kd.C_drewN ?_ _) | (with_reducible refine Kd.C_drew ?_))); (case aB => exact (by repeat (with_reducible first | exact HB.out | apply zqad | apply zqac | apply zqae | refine zqah ?_ GE950.out))); (case aF => exact (fun k_ hk => ⟨Kd.fresh' (Kd.R_lt (by (with_reducible repeat (first | apply Kd.R_alloc | apply Kd.R_drewN | apply Kd.R_drew)); exact HO956.out)) k_ hk, Kd.fresh' (Kd.R_lt (by (with_reducible repeat (first | apply Kd.R_alloc | apply Kd.R_drewN | apply Kd.R_drew)); exact HO959.out)) k_ hk, Kd.fresh' (Kd.R_lt (by (with_reducible repeat (first | apply Kd.R_alloc | apply Kd.R_drewN | apply Kd.R_drew)); exact HO965.out)) k_ hk, Kd.fresh' (Kd.R_lt (by (with_reducible repeat (first | apply Kd.R_alloc | apply Kd.R_drewN | apply Kd.R_drew)); exact HO972.out)) k_ hk⟩)); (case aO => exact (by (with_reducible repeat (first | apply Kd.R_alloc | apply Kd.R_drewN | apply Kd.R_drew)); exact Kd.R_mono HO968.out (fun _ hk => ⟨hk.1.1, ⟨hk.1.2.1, ⟨hk.1.2.2, hk.2⟩⟩⟩))); (case aS => exact (zqaj (by repeat (with_reducible first | exact HB.out | apply zqad | apply zqac | apply zqae | refine zqah ?_ GE950.out)))); (case aL => have := LMc13.out; omega); intro v974 w32 ho hb hg hat; rw [← Ny973.out] at ho; have n0_ := Aside0.mk (zqaw (g := gb950) (o := .cells #[.int .i64 a0_0, .bool a0_1, .bool a0_2, .int .i64 a0_3, .int .u8 a0_4, .int .u8 a0_5, .int .u8 a0_6, .int .u8 a0_7, .int .u8 a0_8, .int .u8 a0_9, .int .u8 a0_10, .int .u8 a0_11] 24 (0, 0)) (by (with_reducible repeat (first | refine zqag ?_ _ | refine zqai ?_ | refine zqaf ?_ _)); exact BK950.out) hg (Kd.R_ne HO968.out BK950.out (by decide))); have n1_ := Aside0.mk (Kd.R_after (ok := (fun k_ => some k_ ≠ (.slice Ao21 y957.length co21 : Value).ownBlock ∧ some k_ ≠ (.slice Ao26 y963.length co26 : Value).ownBlock ∧ some k_ ≠ (.slice Ao33 y970.length co33 : Value).ownBlock)) (by (with_reducible repeat (first | apply Kd.R_alloc | apply Kd.R_drewN | apply Kd.R_drew)); exact Kd.R_mono HO956.out (fun _ hk => ⟨⟨hk.1.1.1, ⟨hk.1.1.2, hk.2⟩⟩, hk.1.2⟩)) hg hat); have n2_ := Aside0.mk (Kd.R_after (ok := (fun k_ => some k_ ≠ (.slice Ao20 t954.length co20 : Value).ownBlock ∧ some k_ ≠ (.slice Ao26 y963.length co26 : Value).ownBlock ∧ some k_ ≠ (.slice Ao33 y970.length co33 : Value).ownBlock)) (by (with_reducible repeat (first | apply Kd.R_alloc | apply Kd.R_drewN | apply Kd.R_drew)); exact Kd.R_mono HO959.out (fun _ hk => ⟨⟨hk.1.1.1, ⟨hk.1.1.2, hk.2⟩⟩, hk.1.2⟩)) hg hat); have n3_ := Aside0.mk (Kd.R_after (ok := (fun k_ => some k_ ≠ (.slice Ao20 t954.length co20 : Value).ownBlock ∧ some k_ ≠ (.slice Ao21 y957.length co21 : Value).ownBlock ∧ some k_ ≠ (.slice Ao33 y970.length co33 : Value).ownBlock)) (by (with_reducible repeat (first | apply Kd.R_alloc | apply Kd.R_drewN | apply Kd.R_drew)); exact Kd.R_mono HO965.out (fun _ hk => ⟨⟨hk.1.1.1, ⟨hk.1.1.2, hk.2⟩⟩, hk.1.2⟩)) hg hat); have n4_ := Aside0.mk (Kd.R_after (ok := (fun k_ => some k_ ≠ (.slice Ao20 t954.length co20 : Value).ownBlock ∧ some k_ ≠ (.slice Ao21 y957.length co21 : Value).ownBlock ∧ some k_ ≠ (.slice Ao26 y963.length co26 : Value).ownBlock)) (by (with_reducible repeat (first | apply Kd.R_alloc | apply Kd.R_drewN | apply Kd.R_drew)); exact Kd.R_mono HO972.out (fun _ hk => ⟨⟨hk.1.1.1.2, ⟨hk.1.1.2, hk.1.2⟩⟩, hk.2⟩)) hg hat); have n5_ := Aside0.mk (hb); have n6_ := Aside0.mk (ho); clear BK950; clear HO956; clear HO959; clear HO965; clear HO972; clear HB; clear HO968; have BK950 := n0_; have HO956 := n1_; have HO959 := n2_; have HO965 := n3_; have HO972 := n4_; have HB := n5_; have HO975 := n6_; clear n0_ n1_ n2_ n3_ n4_ n5_ n6_; clear ho hb hg hat))
       go_ret
       exact ⟨_, by first | rfl | (simp [errW_none, errW_some] <;> rfl) | (simp only [← hji9]; first | rfl | (simp [errW_none, errW_some] <;> rfl)) | (simp [*, errW_none, errW_some] <;> rfl), by (with_reducible repeat (first | apply Kd.R_alloc | apply Kd.R_drewN | apply Kd.R_drew)); exact Kd.R_mono HO975.out (fun _ hk => trivial), by repeat (with_reducible first | exact HB.out | apply zqad | apply zqac | apply zqae | refine zqah ?_ GE950.out)⟩
      ·
       rw [if_neg c13] at H
       exact absurd H (by simp)
     ·
      rw [if_neg c11] at H
      exact absurd H (by simp)
    ·
     rw [if_neg c10] at H
     exact absurd H (by simp)
   ·
    replace c8 := Bool.eq_false_iff.mpr c8
    subst c8
    have H1 : ((some (([1, 1, 1, 1, 1, 1, 1, 1] : List Int) : List Int)).bind fun y976 => (if y966.length + y976.length < 17592186044416 then (some (y966 ++ y976)) else (none))) = some r := by rw [if_neg (show ¬ (false = true) by decide)] at H; exact H
    clear H
    have H := H1
    clear H1
    obtain ⟨y976, hy976⟩ : ∃ y_ : List Int, y_ = (([1, 1, 1, 1, 1, 1, 1, 1] : List Int)) := ⟨_, rfl⟩
    replace H : (if y966.length + y976.length < 17592186044416 then (some (y966 ++ y976)) else (none)) = some r := by first | (rw [hy976]; with_reducible exact H) | (have H2_ := (Option.bind_some _ _).symm.trans H; rw [hy976]; with_reducible exact H2_) | (have H2_ := (Option.bind_some _ _).symm.trans H; with_reducible exact H2_) | with_reducible exact H | (rw [hy976]; exact H) | exact H
    have Ny976 := Aside0.mk hy976
    clear hy976
    by_cases c34 : y966.length + y976.length < 17592186044416
    ·
     rw [if_pos c34] at H
     have LMc34 := Aside0.mk c34
     clear c34
     obtain ⟨y979, hy979⟩ : ∃ y_ : List Int, y_ = (y966 ++ y976) := ⟨_, rfl⟩
     replace H : (some y979) = some r := by first | (rw [hy979]; with_reducible exact H) | (have H2_ := (Option.bind_some _ _).symm.trans H; rw [hy979]; with_reducible exact H2_) | (have H2_ := (Option.bind_some _ _).symm.trans H; with_reducible exact H2_) | with_reducible exact H | (rw [hy979]; exact H) | exact H
     have Ny979 := Aside0.mk hy979
     clear hy979
     obtain rfl := Option.some.inj H
     go_enter Try.func41, Try.ntmps41
     go_wp2_with (first | ((with_reducible refine zqar (N := 2) rfl ?_); refine zqav ?hg (N := 2) ?hd (cs := #[.int .i64 a0_0, .bool a0_1, .bool a0_2, .int .i64 a0_3, .int .u8 a0_4, .int .u8 a0_5, .int .u8 a0_6, .int .u8 a0_7, .int .u8 a0_8, .int .u8 a0_9, .int .u8 a0_10, .int .u8 a0_11]) (t := 24) ?hr ?_; (case hd => rfl); (case hg => rfl); (case hr => first | (go_simp; done) | (go_simp; rfl)); intro gb950 hg w35 hbox hb; have n0_ := Aside0.mk (zqak (by repeat (with_reducible first | exact HB.out | apply zqad | apply zqac | apply zqae)) hb); have n1_ := Aside0.mk (hbox); have n2_ := Aside0.mk ((by rw [hg]; exact (zqaj (by repeat (with_reducible first | exact HB.out | apply zqad | apply zqac | apply zqae))) : w.heap.size ≤ gb950)); have n3_ := Aside0.mk ((by rw [hg]; exact (zqaj (by repeat (with_reducible first | exact HB.out | apply zqad | apply zqac | apply zqae))) : w.heap.size ≤ gb950)); clear HB; have HB := n0_; have BK950 := n1_; have GW950 := n2_; have GE950 := n3_; clear n0_ n1_ n2_ n3_; clear hb hbox hg; have hcz36_0 : w35.cell? ⟨gb950, 0, none⟩ = some (.int .i64 a0_0) := (zqab BK950.out 0).trans rfl; have hcz36_1 : w35.cell? ⟨gb950, 1, none⟩ = some (.bool a0_1) := (zqab BK950.out 1).trans rfl; have hcz36_2 : w35.cell? ⟨gb950, 2, none⟩ = some (.bool a0_2) := (zqab BK950.out 2).trans rfl; have hcz36_3 : w35.cell? ⟨gb950, 3, none⟩ = some (.int .i64 a0_3) := (zqab BK950.out 3).trans rfl; have hcz36_4 : w35.cell? ⟨gb950, 4, none⟩ = some (.int .u8 a0_4) := (zqab BK950.out 4).trans rfl; have hcz36_5 : w35.cell? ⟨gb950, 5, none⟩ = some (.int .u8 a0_5) := (zqab BK950.out 5).trans rfl; have hcz36_6 : w35.cell? ⟨gb950, 6, none⟩ = some (.int .u8 a0_6) := (zqab BK950.out 6).trans rfl; have hcz36_7 : w35.cell? ⟨gb950, 7, none⟩ = some (.int .u8 a0_7) := (zqab BK950.out 7).trans rfl; have hcz36_8 : w35.cell? ⟨gb950, 8, none⟩ = some (.int .u8 a0_8) := (zqab BK950.out 8).trans rfl; have hcz36_9 : w35.cell? ⟨gb950, 9, none⟩ = some (.int .u8 a0_9) := (zqab BK950.out 9).trans rfl; have hcz36_10 : w35.cell? ⟨gb950, 10, none⟩ = some (.int .u8 a0_10) := (zqab BK950.out 10).trans rfl; have hcz36_11 : w35.cell? ⟨gb950, 11, none⟩ = some (.int .u8 a0_11) := (zqab BK950.out 11).trans rfl; have hfz36_0 := zqaa BK950.out 0; have hfz36_1 := zqaa BK950.out 1; have hfz36_2 := zqaa BK950.out 2; have hfz36_3 := zqaa BK950.out 3; have hfz36_4 := zqaa BK950.out 4; have hfz36_5 := zqaa BK950.out 5; have hfz36_6 := zqaa BK950.out 6; have hfz36_7 := zqaa BK950.out 7; have hfz36_8 := zqaa BK950.out 8; have hfz36_9 := zqaa BK950.out 9; have hfz36_10 := zqaa BK950.out 10; have hfz36_11 := zqaa BK950.out 11) | ((with_reducible refine zqal (f := 21) rfl ?_); refine goesL_ (some 8) rfl rfl Try.func21 (by kernel_rfl) rfl #[.agg #[.int .i64 a0_0, .bool a0_1, .bool a0_2, .int .i64 a0_3, .int .u8 a0_4, .int .u8 a0_5, .int .u8 a0_6, .int .u8 a0_7, .int .u8 a0_8, .int .u8 a0_9, .int .u8 a0_10, .int .u8 a0_11]] rfl (by (try simp only [List.map_toArray, List.map_cons, List.map_nil]); first | done | rfl | (simp only [List.length_drop, List.length_take]; rfl)) ?_; (with_reducible refine (magnetoref04_Bits.calls k a0_0 a0_1 a0_2 a0_3 a0_4 a0_5 a0_6 a0_7 a0_8 a0_9 a0_10 a0_11 t951 _ A3.out).mono ?_); rintro e w37 ⟨v952, rfl, ho0, hb⟩; refine ⟨_, rfl, ?_⟩; have n0_ := Aside0.mk (Kd.R_lower ho0 (zqaj (by repeat (with_reducible first | exact HB.out | apply zqad | apply zqac | apply zqae | refine zqah ?_ GE950.out)))); have n1_ := Aside0.mk (zqam (g := gb950) (o := .cells #[.int .i64 a0_0, .bool a0_1, .bool a0_2, .int .i64 a0_3, .int .u8 a0_4, .int .u8 a0_5, .int .u8 a0_6, .int .u8 a0_7, .int .u8 a0_8, .int .u8 a0_9, .int .u8 a0_10, .int .u8 a0_11] 24 (0, 0)) (by (with_reducible repeat (first | refine zqag ?_ _ | refine zqai ?_ | refine zqaf ?_ _)); exact BK950.out) hb); have n2_ := Aside0.mk (zqak (by repeat (with_reducible first | exact HB.out | apply zqad | apply zqac | apply zqae | refine zqah ?_ GE950.out)) hb); clear BK950; clear HB; have HO953 := n0_; have BK950 := n1_; have HB := n2_; clear n0_ n1_ n2_; (try clear hb); (try clear hb2); (try clear hk); (try clear hi); (try clear ho0); obtain ⟨Ao38, co38, eo38⟩ := Kd.R_slice HO953.out; subst eo38) | ((with_reducible refine zqal (f := 32) rfl ?_); refine goesL_ (some 11) rfl rfl Try.func32 (by kernel_rfl) rfl #[.slice Ao38 t951.length co38] rfl (by (try simp only [List.map_toArray, List.map_cons, List.map_nil]); first | done | rfl | (simp only [List.length_drop, List.length_take]; rfl)) ?_; (with_reducible refine (magnetoref04_Sum.calls k _ _ t951 t954 _ ?side1 ?side2 A4.out).mono ?_); (case side1 => repeat (first | exact (Kd.R_reads' HO953.out).2.2 | (with_reducible refine Kd.C_alloc ?_ _) | (with_reducible refine Kd.C_drewN ?_ _) | (with_reducible refine Kd.C_drew ?_))); (case side2 => exact (Kd.R_reads' HO953.out).2.1); rintro e w39 ⟨v955, rfl, ho0, hb⟩; refine ⟨_, rfl, ?_⟩; have n0_ := Aside0.mk (Kd.R_elder' (by (with_reducible repeat (first | apply Kd.R_alloc | apply Kd.R_drewN | apply Kd.R_drew)); exact HO953.out) (Kd.R_base ho0) hb); have n1_ := Aside0.mk (Kd.R_lower (Kd.R_new' ho0 (Kd.R_lt (by (with_reducible repeat (first | apply Kd.R_alloc | apply Kd.R_drewN | apply Kd.R_drew)); exact HO953.out))) (zqaj (by repeat (with_reducible first | exact HB.out | apply zqad | apply zqac | apply zqae | refine zqah ?_ GE950.out)))); have n2_ := Aside0.mk (zqam (g := gb950) (o := .cells #[.int .i64 a0_0, .bool a0_1, .bool a0_2, .int .i64 a0_3, .int .u8 a0_4, .int .u8 a0_5, .int .u8 a0_6, .int .u8 a0_7, .int .u8 a0_8, .int .u8 a0_9, .int .u8 a0_10, .int .u8 a0_11] 24 (0, 0)) (by (with_reducible repeat (first | refine zqag ?_ _ | refine zqai ?_ | refine zqaf ?_ _)); exact BK950.out) hb); have n3_ := Aside0.mk (zqak (by repeat (with_reducible first | exact HB.out | apply zqad | apply zqac | apply zqae | refine zqah ?_ GE950.out)) hb); clear HO953; clear BK950; clear HB; have HO953 := n0_; have HO956 := n1_; have BK950 := n2_; have HB := n3_; clear n0_ n1_ n2_ n3_; (try clear hb); (try clear hb2); (try clear hk); (try clear hi); (try clear ho0); obtain ⟨Ao41, co41, eo41⟩ := Kd.R_slice HO956.out; subst eo41) | ((with_reducible refine zqao (b := .append) (xs := #[.tmp 9, .tmp 11]) rfl ?_); at_builtin; refine Kd.R_append_rows (Kd.int .i64) (w0 := w) w.heap.size rfl (.tmp 9) (.tmp 11) 25 3 (.int .i64 0) 8 rfl Try.underlying25 info3 rfl (by decide) (by omega) (.slice Ao38 t951.length co38) t951 t954 _ _ _ (fun k_ => some k_ ≠ (.slice Ao41 t954.length co41 : Value).ownBlock) (fun _ => False) rfl rfl ?aO ?aR (fun _ _ h => h) (fun _ h => h.elim) ?aF ?aB ?aS ?aL ?_; (case aR => repeat (first | exact (Kd.R_reads' HO956.out).2.2 | (with_reducible refine Kd.C_alloc ?_ _) | (with_reducible refine Kd.C_drewN ?_ _) | (with_reducible refine Kd.C_drew ?_))); (case aB => exact (by repeat (with_reducible first | exact HB.out | apply zqad | apply zqac | apply zqae | refine zqah ?_ GE950.out))); (case aF => exact (fun k_ hk => Kd.fresh' (Kd.R_lt (by (with_reducible repeat (first | apply Kd.R_alloc | apply Kd.R_drewN | apply Kd.R_drew)); exact HO956.out)) k_ hk)); (case aO => exact (by (with_reducible repeat (first | apply Kd.R_alloc | apply Kd.R_drewN | apply Kd.R_drew)); exact Kd.R_mono HO953.out (fun _ hk => hk.2))); (case aS => exact (zqaj (by repeat (with_reducible first | exact HB.out | apply zqad | apply zqac | apply zqae | refine zqah ?_ GE950.out)))); (case aL => have := LMc5.out; omega); intro v958 w40 ho hb hg hat; rw [← Ny957.out] at ho; have n0_ := Aside0.mk (zqaw (g := gb950) (o := .cells #[.int .i64 a0_0, .bool a0_1, .bool a0_2, .int .i64 a0_3, .int .u8 a0_4, .int .u8 a0_5, .int .u8 a0_6, .int .u8 a0_7, .int .u8 a0_8, .int .u8 a0_9, .int .u8 a0_10, .int .u8 a0_11] 24 (0, 0)) (by (with_reducible repeat (first | refine zqag ?_ _ | refine zqai ?_ | refine zqaf ?_ _)); exact BK950.out) hg (Kd.R_ne HO953.out BK950.out (by decide))); have n1_ := Aside0.mk (Kd.R_after (ok := (fun _ => True)) (by (with_reducible repeat (first | apply Kd.R_alloc | apply Kd.R_drewN | apply Kd.R_drew)); exact HO956.out) hg hat); have n2_ := Aside0.mk (hb); have n3_ := Aside0.mk (ho); clear BK950; clear HO956; clear HB; clear HO953; have BK950 := n0_; have HO956 := n1_; have HB := n2_; have HO959 := n3_; clear n0_ n1_ n2_ n3_; clear ho hb hg hat; obtain ⟨Ao42, co42, eo42⟩ := Kd.R_slice HO959.out; subst eo42) | ((with_reducible refine zqal (f := 66) rfl ?_); refine goesL_ (some 14) rfl rfl Try.func66 (by kernel_rfl) rfl #[.slice Ao42 y957.length co42] rfl (by (try simp only [List.map_toArray, List.map_cons, List.map_nil]); first | done | rfl | (simp only [List.length_drop, List.length_take]; rfl)) ?_; (with_reducible refine (magnetoref05_Add.calls k _ _ y957 t960 _ ?side1 ?side2 A6.out).mono ?_); (case side1 => repeat (first | exact (Kd.R_reads' HO959.out).2.2 | (with_reducible refine Kd.C_alloc ?_ _) | (with_reducible refine Kd.C_drewN ?_ _) | (with_reducible refine Kd.C_drew ?_))); (case side2 => exact (Kd.R_reads' HO959.out).2.1); rintro e w43 ⟨v961, rfl, ho0, hb⟩; refine ⟨_, rfl, ?_⟩; have n0_ := Aside0.mk (Kd.R_elder' (by (with_reducible repeat (first | apply Kd.R_alloc | apply Kd.R_drewN | apply Kd.R_drew)); exact HO956.out) (Kd.R_base ho0) hb); have n1_ := Aside0.mk (Kd.R_elder' (by (with_reducible repeat (first | apply Kd.R_alloc | apply Kd.R_drewN | apply Kd.R_drew)); exact HO959.out) (Kd.R_base ho0) hb); have n2_ := Aside0.mk (Kd.R_lower (Kd.R_new' (Kd.R_new' ho0 (Kd.R_lt (by (with_reducible repeat (first | apply Kd.R_alloc | apply Kd.R_drewN | apply Kd.R_drew)); exact HO956.out))) (Kd.R_lt (by (with_reducible repeat (first | apply Kd.R_alloc | apply Kd.R_drewN | apply Kd.R_drew)); exact HO959.out))) (zqaj (by repeat (with_reducible first | exact HB.out | apply zqad | apply zqac | apply zqae | refine zqah ?_ GE950.out)))); have n3_ := Aside0.mk (zqam (g := gb950) (o := .cells #[.int .i64 a0_0, .bool a0_1, .bool a0_2, .int .i64 a0_3, .int .u8 a0_4, .int .u8 a0_5, .int .u8 a0_6, .int .u8 a0_7, .int .u8 a0_8, .int .u8 a0_9, .int .u8 a0_10, .int .u8 a0_11] 24 (0, 0)) (by (with_reducible repeat (first | refine zqag ?_ _ | refine zqai ?_ | refine zqaf ?_ _)); exact BK950.out) hb); have n4_ := Aside0.mk (zqak (by repeat (with_reducible first | exact HB.out | apply zqad | apply zqac | apply zqae | refine zqah ?_ GE950.out)) hb); clear HO956; clear HO959; clear BK950; clear HB; have HO956 := n0_; have HO959 := n1_; have HO962 := n2_; have BK950 := n3_; have HB := n4_; clear n0_ n1_ n2_ n3_ n4_; (try clear hb); (try clear hb2); (try clear hk); (try clear hi); (try clear ho0)) | ((with_reducible refine zqar (N := 15) rfl ?_); refine Kd.R_lit (Kd.int .i64) _ 3 ?hg (N := 15) ?hd (xs := ([1, 1] : List Int)) (inner := [.int .i64 1, .int .i64 1]) (ok := fun _ => True) (okp := fun _ => True) ?hr ?hp (fun _ hk => hk) trivial (Below.refl _ _) (Nat.le_refl _) (by simp) ?_; (case hd => rfl); (case hg => rfl); (case hr => first | (go_simp; done) | (go_simp; rfl)); (case hp => exact (Reps.one (show Kd.M (Kd.int .i64) _ _ _ 1 [.int .i64 1] from rfl) (Reps.one (show Kd.M (Kd.int .i64) _ _ _ 1 [.int .i64 1] from rfl) (Reps.none _ _)))); intro v964 w44 ho45 hb hg_ hnew_; clear hg_ hnew_; (first | rw [← Ny963.out] at ho45 | (simp only [Int.reduceToNat] at ho45; rw [← Ny963.out] at ho45)); have n0_ := Aside0.mk (Kd.R_elder' (by (with_reducible repeat (first | apply Kd.R_alloc | apply Kd.R_drewN | apply Kd.R_drew)); exact HO956.out) (Kd.R_base ho45) hb); have n1_ := Aside0.mk (Kd.R_elder' (by (with_reducible repeat (first | apply Kd.R_alloc | apply Kd.R_drewN | apply Kd.R_drew)); exact HO959.out) (Kd.R_base ho45) hb); have n2_ := Aside0.mk (Kd.R_elder' (by (with_reducible repeat (first | apply Kd.R_alloc | apply Kd.R_drewN | apply Kd.R_drew)); exact HO962.out) (Kd.R_base ho45) hb); have n3_ := Aside0.mk (Kd.R_lower (Kd.R_new' (Kd.R_new' (Kd.R_new' ho45 (Kd.R_lt (by (with_reducible repeat (first | apply Kd.R_alloc | apply Kd.R_drewN | apply Kd.R_drew)); exact HO956.out))) (Kd.R_lt (by (with_reducible repeat (first | apply Kd.R_alloc | apply Kd.R_drewN | apply Kd.R_drew)); exact HO959.out))) (Kd.R_lt (by (with_reducible repeat (first | apply Kd.R_alloc | apply Kd.R_drewN | apply Kd.R_drew)); exact HO962.out))) (zqaj (by repeat (with_reducible first | exact HB.out | apply zqad | apply zqac | apply zqae | refine zqah ?_ GE950.out)))); have n4_ := Aside0.mk (zqam (g := gb950) (o := .cells #[.int .i64 a0_0, .bool a0_1, .bool a0_2, .int .i64 a0_3, .int .u8 a0_4, .int .u8 a0_5, .int .u8 a0_6, .int .u8 a0_7, .int .u8 a0_8, .int .u8 a0_9, .int .u8 a0_10, .int .u8 a0_11] 24 (0, 0)) (by (with_reducible repeat (first | refine zqag ?_ _ | refine zqai ?_ | refine zqaf ?_ _)); exact BK950.out) hb); have n5_ := Aside0.mk (zqak (by repeat (with_reducible first | exact HB.out | apply zqad | apply zqac | apply zqae | refine zqah ?_ GE950.out)) hb); clear HO956; clear HO959; clear HO962; clear BK950; clear HB; have HO956 := n0_; have HO959 := n1_; have HO962 := n2_; have HO965 := n3_; have BK950 := n4_; have HB := n5_; clear n0_ n1_ n2_ n3_ n4_ n5_; clear hb ho45; obtain ⟨Ao47, co47, eo47⟩ := Kd.R_slice HO965.out; subst eo47) | ((with_reducible refine zqao (b := .append) (xs := #[.tmp 14, .tmp 15]) rfl ?_); at_builtin; refine Kd.R_append_rows (Kd.int .i64) (w0 := w) w.heap.size rfl (.tmp 14) (.tmp 15) 25 3 (.int .i64 0) 8 rfl Try.underlying25 info3 rfl (by decide) (by omega) v961 t960 y963 _ _ _ (fun k_ => some k_ ≠ (.slice Ao41 t954.length co41 : Value).ownBlock ∧ some k_ ≠ (.slice Ao42 y957.length co42 : Value).ownBlock ∧ some k_ ≠ (.slice Ao47 y963.length co47 : Value).ownBlock) (fun _ => False) rfl rfl ?aO ?aR (fun _ _ h => h) (fun _ h => h.elim) ?aF ?aB ?aS ?aL ?_; (case aR => repeat (first | exact (Kd.R_reads' HO965.out).2.2 | (with_reducible refine Kd.C_alloc ?_ _) | (with_reducible refine Kd.C_drewN ?_ _) | (with_reducible refine Kd.C_drew ?_))); (case aB => exact (by repeat (with_reducible first | exact HB.out | apply zqad | apply zqac | apply zqae | refine zqah ?_ GE950.out))); (case aF => exact (fun k_ hk => ⟨Kd.fresh' (Kd.R_lt (by (with_reducible repeat (first | apply Kd.R_alloc | apply Kd.R_drewN | apply Kd.R_drew)); exact HO956.out)) k_ hk, Kd.fresh' (Kd.R_lt (by (with_reducible repeat (first | apply Kd.R_alloc | apply Kd.R_drewN | apply Kd.R_drew)); exact HO959.out)) k_ hk, Kd.fresh' (Kd.R_lt (by (with_reducible repeat (first | apply Kd.R_alloc | apply Kd.R_drewN | apply Kd.R_drew)); exact HO965.out)) k_ hk⟩)); (case aO => exact (by (with_reducible repeat (first | apply Kd.R_alloc | apply Kd.R_drewN | apply Kd.R_drew)); exact Kd.R_mono HO962.out (fun _ hk => ⟨hk.1.1.2, ⟨hk.1.2, hk.2⟩⟩))); (case aS => exact (zqaj (by repeat (with_reducible first | exact HB.out | apply zqad | apply zqac | apply zqae | refine zqah ?_ GE950.out)))); (case aL => have := LMc7.out; omega); intro v967 w46 ho hb hg hat; rw [← Ny966.out] at ho; have n0_ := Aside0.mk (zqaw (g := gb950) (o := .cells #[.int .i64 a0_0, .bool a0_1, .bool a0_2, .int .i64 a0_3, .int .u8 a0_4, .int .u8 a0_5, .int .u8 a0_6, .int .u8 a0_7, .int .u8 a0_8, .int .u8 a0_9, .int .u8 a0_10, .int .u8 a0_11] 24 (0, 0)) (by (with_reducible repeat (first | refine zqag ?_ _ | refine zqai ?_ | refine zqaf ?_ _)); exact BK950.out) hg (Kd.R_ne HO962.out BK950.out (by decide))); have n1_ := Aside0.mk (Kd.R_after (ok := (fun k_ => some k_ ≠ (.slice Ao42 y957.length co42 : Value).ownBlock ∧ some k_ ≠ (.slice Ao47 y963.length co47 : Value).ownBlock)) (by (with_reducible repeat (first | apply Kd.R_alloc | apply Kd.R_drewN | apply Kd.R_drew)); exact Kd.R_mono HO956.out (fun _ hk => ⟨⟨hk.1.1.2, hk.2⟩, hk.1.2⟩)) hg hat); have n2_ := Aside0.mk (Kd.R_after (ok := (fun k_ => some k_ ≠ (.slice Ao41 t954.length co41 : Value).ownBlock ∧ some k_ ≠ (.slice Ao47 y963.length co47 : Value).ownBlock)) (by (with_reducible repeat (first | apply Kd.R_alloc | apply Kd.R_drewN | apply Kd.R_drew)); exact Kd.R_mono HO959.out (fun _ hk => ⟨⟨hk.1.1, hk.2⟩, hk.1.2⟩)) hg hat); have n3_ := Aside0.mk (Kd.R_after (ok := (fun k_ => some k_ ≠ (.slice Ao41 t954.length co41 : Value).ownBlock ∧ some k_ ≠ (.slice Ao42 y957.length co42 : Value).ownBlock)) (by (with_reducible repeat (first | apply Kd.R_alloc | apply Kd.R_drewN | apply Kd.R_drew)); exact Kd.R_mono HO965.out (fun _ hk => ⟨⟨hk.1.1.2, hk.1.2⟩, hk.2⟩)) hg hat); have n4_ := Aside0.mk (hb); have n5_ := Aside0.mk (ho); clear BK950; clear HO956; clear HO959; clear HO965; clear HB; clear HO962; have BK950 := n0_; have HO956 := n1_; have HO959 := n2_; have HO965 := n3_; have HB := n4_; have HO968 := n5_; clear n0_ n1_ n2_ n3_ n4_ n5_; clear ho hb hg hat) | ((with_reducible refine zqar (N := 24) rfl ?_); refine Kd.R_lit (Kd.int .i64) _ 3 ?hg (N := 24) ?hd (xs := ([1, 1, 1, 1, 1, 1, 1, 1] : List Int)) (inner := [.int .i64 1, .int .i64 1, .int .i64 1, .int .i64 1, .int .i64 1, .int .i64 1, .int .i64 1, .int .i64 1]) (ok := fun _ => True) (okp := fun _ => True) ?hr ?hp (fun _ hk => hk) trivial (Below.refl _ _) (Nat.le_refl _) (by simp) ?_; (case hd => rfl); (case hg => rfl); (case hr => first | (go_simp; done) | (go_simp; rfl)); (case hp => exact (Reps.one (show Kd.M (Kd.int .i64) _ _ _ 1 [.int .i64 1] from rfl) (Reps.one (show Kd.M (Kd.int .i64) _ _ _ 1 [.int .i64 1] from rfl) (Reps.one (show Kd.M (Kd.int .i64) _ _ _ 1 [.int .i64 1] from rfl) (Reps.one (show Kd.M (Kd.int .i64) _ _ _ 1 [.int .i64 1] from rfl) (Reps.one (show Kd.M (Kd.int .i64) _ _ _ 1 [.int .i64 1] from rfl) (Reps.one (show Kd.M (Kd.int .i64) _ _ _ 1 [.int .i64 1] from rfl) (Reps.one (show Kd.M (Kd.int .i64) _ _ _ 1 [.int .i64 1] from rfl) (Reps.one (show Kd.M (Kd.int .i64) _ _ _ 1 [.int .i64 1] from rfl) (Reps.none _ _)))))))))); intro v977 w48 ho49 hb hg_ hnew_; clear hg_ hnew_; (first | rw [← Ny976.out] at ho49 | (simp only [Int.reduceToNat] at ho49; rw [← Ny976.out] at ho49)); have n0_ := Aside0.mk (Kd.R_elder' (by (with_reducible repeat (first | apply Kd.R_alloc | apply Kd.R_drewN | apply Kd.R_drew)); exact HO956.out) (Kd.R_base ho49) hb); have n1_ := Aside0.mk (Kd.R_elder' (by (with_reducible repeat (first | apply Kd.R_alloc | apply Kd.R_drewN | apply Kd.R_drew)); exact HO959.out) (Kd.R_base ho49) hb); have n2_ := Aside0.mk (Kd.R_elder' (by (with_reducible repeat (first | apply Kd.R_alloc | apply Kd.R_drewN | apply Kd.R_drew)); exact HO965.out) (Kd.R_base ho49) hb); have n3_ := Aside0.mk (Kd.R_elder' (by (with_reducible repeat (first | apply Kd.R_alloc | apply Kd.R_drewN | apply Kd.R_drew)); exact HO968.out) (Kd.R_base ho49) hb); have n4_ := Aside0.mk (Kd.R_lower (Kd.R_new' (Kd.R_new' (Kd.R_new' (Kd.R_new' ho49 (Kd.R_lt (by (with_reducible repeat (first | apply Kd.R_alloc | apply Kd.R_drewN | apply Kd.R_drew)); exact HO956.out))) (Kd.R_lt (by (with_reducible repeat (first | apply Kd.R_alloc | apply Kd.R_drewN | apply Kd.R_drew)); exact HO959.out))) (Kd.R_lt (by (with_reducible repeat (first | apply Kd.R_alloc | apply Kd.R_drewN | apply Kd.R_drew)); exact HO965.out))) (Kd.R_lt (by (with_reducible repeat (first | apply Kd.R_alloc | apply Kd.R_drewN | apply Kd.R_drew)); exact HO968.out))) (zqaj (by repeat (with_reducible first | exact HB.out | apply zqad | apply zqac | apply zqae | refine zqah ?_ GE950.out)))); have n5_ := Aside0.mk (zqam (g := gb950) (o := .cells #[.int .i64 a0_0, .bool a0_1, .bool a0_2, .int .i64 a0_3, .int .u8 a0_4, .int .u8 a0_5, .int .u8 a0_6, .int .u8 a0_7, .int .u8 a0_8, .int .u8 a0_9, .int .u8 a0_10, .int .u8 a0_11] 24 (0, 0)) (by (with_reducible repeat (first | refine zqag ?_ _ | refine zqai ?_ | refine zqaf ?_ _)); exact BK950.out) hb); have n6_ := Aside0.mk (zqak (by repeat (with_reducible first | exact HB.out | apply zqad | apply zqac | apply zqae | refine zqah ?_ GE950.out)) hb); clear HO956; clear HO959; clear HO965; clear HO968; clear BK950; clear HB; have HO956 := n0_; have HO959 := n1_; have HO965 := n2_; have HO968 := n3_; have HO978 := n4_; have BK950 := n5_; have HB := n6_; clear n0_ n1_ n2_ n3_ n4_ n5_ n6_; clear hb ho49; obtain ⟨Ao51, co51, eo51⟩ := Kd.R_slice HO978.out; subst eo51) | ((with_reducible refine zqao (b := .append) (xs := #[.tmp 23, .tmp 24]) rfl ?_); at_builtin; refine Kd.R_append_rows (Kd.int .i64) (w0 := w) w.heap.size rfl (.tmp 23) (.tmp 24) 25 3 (.int .i64 0) 8 rfl Try.underlying25 info3 rfl (by decide) (by omega) v967 y966 y976 _ _ _ (fun k_ => some k_ ≠ (.slice Ao41 t954.length co41 : Value).ownBlock ∧ some k_ ≠ (.slice Ao42 y957.length co42 : Value).ownBlock ∧ some k_ ≠ (.slice Ao47 y963.length co47 : Value).ownBlock ∧ some k_ ≠ (.slice Ao51 y976.length co51 : Value).ownBlock) (fun _ => False) rfl rfl ?aO ?aR (fun _ _ h => h) (fun _ h => h.elim) ?aF ?aB ?aS ?aL ?_; (case aR => repeat (first | exact (Kd.R_reads' HO978.out).2.2 | (with_reducible refine Kd.C_alloc ?_ _) | (with_reducible refine Kd.C_drewN ?_ _) | (with_reducible refine Kd.C_drew ?_))); (case aB => exact (by repeat (with_reducible first | exact HB.out | apply zqad | apply zqac | apply zqae | refine zqah ?_ GE950.out))); (case aF => exact (fun k_ hk => ⟨Kd.fresh' (Kd.R_lt (by (with_reducible repeat (first | apply Kd.R_alloc | apply Kd.R_drewN | apply Kd.R_drew)); exact HO956.out)) k_ hk, Kd.fresh' (Kd.R_lt (by (with_reducible repeat (first | apply Kd.R_alloc | apply Kd.R_drewN | apply Kd.R_drew)); exact HO959.out)) k_ hk, Kd.fresh' (Kd.R_lt (by (with_reducible repeat (first | apply Kd.R_alloc | apply Kd.R_drewN | apply Kd.R_drew)); exact HO965.out)) k_ hk, Kd.fresh' (Kd.R_lt (by (with_reducible repeat (first | apply Kd.R_alloc | apply Kd.R_drewN | apply Kd.R_drew)); exact HO978.out)) k_ hk⟩)); (case aO => exact (by (with_reducible repeat (first | apply Kd.R_alloc | apply Kd.R_drewN | apply Kd.R_drew)); exact Kd.R_mono HO968.out (fun _ hk => ⟨hk.1.1, ⟨hk.1.2.1, ⟨hk.1.2.2, hk.2⟩⟩⟩))); (case aS => exact (zqaj (by repeat (with_reducible first | exact HB.out | apply zqad | apply zqac | apply zqae | refine zqah ?_ GE950.out)))); (case aL => have := LMc34.out; omega); intro v980 w50 ho hb hg hat; rw [← Ny979.out] at ho; have n0_ := Aside0.mk (zqaw (g := gb950) (o := .cells #[.int .i64 a0_0, .bool a0_1, .bool a0_2, .int .i64 a0_3, .int .u8 a0_4, .int .u8 a0_5, .int .u8 a0_6, .int .u8 a0_7, .int .u8 a0_8, .int .u8 a0_9, .int .u8 a0_10, .int .u8 a0_11] 24 (0, 0)) (by (with_reducible repeat (first | refine zqag ?_ _ | refine zqai ?_ | refine zqaf ?_ _)); exact BK950.out) hg (Kd.R_ne HO968.out BK950.out (by decide))); have n1_ := Aside0.mk (Kd.R_after (ok := (fun k_ => some k_ ≠ (.slice Ao42 y957.length co42 : Value).ownBlock ∧ some k_ ≠ (.slice Ao47 y963.length co47 : Value).ownBlock ∧ some k_ ≠ (.slice Ao51 y976.length co51 : Value).ownBlock)) (by (with_reducible repeat (first | apply Kd.R_alloc | apply Kd.R_drewN | apply Kd.R_drew)); exact Kd.R_mono HO956.out (fun _ hk => ⟨⟨hk.1.1.1, ⟨hk.1.1.2, hk.2⟩⟩, hk.1.2⟩)) hg hat); have n2_ := Aside0.mk (Kd.R_after (ok := (fun k_ => some k_ ≠ (.slice Ao41 t954.length co41 : Value).ownBlock ∧ some k_ ≠ (.slice Ao47 y963.length co47 : Value).ownBlock ∧ some k_ ≠ (.slice Ao51 y976.length co51 : Value).ownBlock)) (by (with_reducible repeat (first | apply Kd.R_alloc | apply Kd.R_drewN | apply Kd.R_drew)); exact Kd.R_mono HO959.out (fun _ hk => ⟨⟨hk.1.1.1, ⟨hk.1.1.2, hk.2⟩⟩, hk.1.2⟩)) hg hat); have n3_ := Aside0.mk (Kd.R_after (ok := (fun k_ => some k_ ≠ (.slice Ao41 t954.length co41 : Value).ownBlock ∧ some k_ ≠ (.slice Ao42 y957.length co42 : Value).ownBlock ∧ some k_ ≠ (.slice Ao51 y976.length co51 : Value).ownBlock)) (by (with_reducible repeat (first | apply Kd.R_alloc | apply Kd.R_drewN | apply Kd.R_drew)); exact Kd.R_mono HO965.out (fun _ hk => ⟨⟨hk.1.1.1, ⟨hk.1.1.2, hk.2⟩⟩, hk.1.2⟩)) hg hat); have n4_ := Aside0.mk (Kd.R_after (ok := (fun k_ => some k_ ≠ (.slice Ao41 t954.length co41 : Value).ownBlock ∧ some k_ ≠ (.slice Ao42 y957.length co42 : Value).ownBlock ∧ some k_ ≠ (.slice Ao47 y963.length co47 : Value).ownBlock)) (by (with_reducible repeat (first | apply Kd.R_alloc | apply Kd.R_drewN | apply Kd.R_drew)); exact Kd.R_mono HO978.out (fun _ hk => ⟨⟨hk.1.1.1.2, ⟨hk.1.1.2, hk.1.2⟩⟩, hk.2⟩)) hg hat); have n5_ := Aside0.mk (hb); have n6_ := Aside0.mk (ho); clear BK950; clear HO956; clear HO959; clear HO965; clear HO978; clear HB; clear HO968; have BK950 := n0_; have HO956 := n1_; have HO959 := n2_; have HO965 := n3_; have HO978 := n4_; have HB := n5_; have HO981 := n6_; clear n0_ n1_ n2_ n3_ n4_ n5_ n6_; clear ho hb hg hat))
     go_ret
     exact ⟨_, by first | rfl | (simp [errW_none, errW_some] <;> rfl) | (simp [*, errW_none, errW_some] <;> rfl), by (with_reducible repeat (first | apply Kd.R_alloc | apply Kd.R_drewN | apply Kd.R_drew)); exact Kd.R_mono HO981.out (fun _ hk => trivial), by repeat (with_reducible first | exact HB.out | apply zqad | apply zqac | apply zqae | refine zqah ?_ GE950.out)⟩
    ·
     rw [if_neg c34] at H
     exact absurd H (by simp)
  ·
   rw [if_neg c7] at H
   exact absurd H (by simp)
 ·
  rw [if_neg c5] at H
  exact absurd H (by simp)

/-! ### magnetolaw06_CodecEncodes: function 13 -/
mutual
def magnetolaw06_CodecEncodes.j0 : Nat → Bool → Int → List Int → Int → Int → Int → Int → Int → Bool → Int → Bool → Bool → Int → Int → Int → Int → Int → Int → Int → Int → Int → Option (Bool)
 | 0, _, _, _, _, _, _, _, _, _, _, _, _, _, _, _, _, _, _, _, _, _ => none
 | k + 1, x1, x2, x7, x8, x9, x10, x11, x12, x37, x983000, x983001, x983002, x983003, x983004, x983005, x983006, x983007, x983008, x983009, x983010, x983011 => if x37 = true then (if x11 = 0 then (if x12 = 10 then (magnetolaw06_CodecEncodes.j1 k x1 x7 x8 x9 x10 x983000 x983001 x983002 x983003 x983004 x983005 x983006 x983007 x983008 x983009 x983010 x983011) else (none)) else (none)) else (if x1 = true then (if x11 = (wrap64 ((wrap64 ((wrap64 ((wrap64 (34 + (wrap64 (8 * x2)))) + 20)) + (wrap64 (Int.tdiv (wrap64 ((wrap64 ((wrap64 (34 + (wrap64 (8 * x2)))) + 20)) - 1)) 4)))) + 10)) then (if x12 = 0 then (magnetolaw06_CodecEncodes.j1 k x1 x7 x8 x9 x10 x983000 x983001 x983002 x983003 x983004 x983005 x983006 x983007 x983008 x983009 x983010 x983011) else (none)) else (none)) else (if x11 = (wrap64 ((wrap64 ((wrap64 (34 + (wrap64 (8 * x2)))) + (wrap64 (Int.tdiv (wrap64 ((wrap64 (34 + (wrap64 (8 * x2)))) - 1)) 4)))) + 10)) then (if x12 = 0 then (magnetolaw06_CodecEncodes.j1 k x1 x7 x8 x9 x10 x983000 x983001 x983002 x983003 x983004 x983005 x983006 x983007 x983008 x983009 x983010 x983011) else (none)) else (none)))
def magnetolaw06_CodecEncodes.j1 : Nat → Bool → List Int → Int → Int → Int → Int → Bool → Bool → Int → Int → Int → Int → Int → Int → Int → Int → Int → Option (Bool)
 | 0, _, _, _, _, _, _, _, _, _, _, _, _, _, _, _, _, _ => none
 | k + 1, x1, x7, x8, x9, x10, x983000, x983001, x983002, x983003, x983004, x983005, x983006, x983007, x983008, x983009, x983010, x983011 => (magnetoref03_Check.f k x983000 x983001 x983002 x983003 x983004 x983005 x983006 x983007 x983008 x983009 x983010 x983011).bind fun t991 => (if t991 = 0 then (if x8 = 0 then ((magnetoref06_Encode.f k x983000 x983001 x983002 x983003 x983004 x983005 x983006 x983007 x983008 x983009 x983010 x983011 x1).bind fun t992 => ((magnetolaw06_ints.f k x7 t992).bind fun t995 => (if t995 = true then (if x9 = (x7.length : Int) then (if x10 = 0 then ((magnetolaw06_awake.f k).bind fun t996 => (some t996)) else (none)) else (none)) else (none)))) else (none)) else (if (x7.length : Int) = 0 then (if x8 = t991 then (if x9 = 0 then (if x10 = t991 then ((magnetolaw06_awake.f k).bind fun t997 => (some t997)) else (none)) else (none)) else (none)) else (none)))
end
def magnetolaw06_CodecEncodes.f (k : Nat) (a0_0 : Int) (a0_1 : Bool) (a0_2 : Bool) (a0_3 : Int) (a0_4 : Int) (a0_5 : Int) (a0_6 : Int) (a0_7 : Int) (a0_8 : Int) (a0_9 : Int) (a0_10 : Int) (a0_11 : Int) (a1 : Bool) (a2 : Int) : Option (Bool) := (codec_Encode.f k a0_0 a0_1 a0_2 a0_3 a0_4 a0_5 a0_6 a0_7 a0_8 a0_9 a0_10 a0_11 a1).bind fun bt983 => ((codec_Length.f k a0_0 a0_1 a0_2 a0_3 a0_4 a0_5 a0_6 a0_7 a0_8 a0_9 a0_10 a0_11).bind fun bt987 => ((codec_Longest.f k a2 a1).bind fun bt989 => (if a2 < 0 then (magnetolaw06_CodecEncodes.j0 k a1 a2 bt983.1 bt983.2 bt987.1 bt987.2 bt989.1 bt989.2 true a0_0 a0_1 a0_2 a0_3 a0_4 a0_5 a0_6 a0_7 a0_8 a0_9 a0_10 a0_11) else (magnetolaw06_CodecEncodes.j0 k a1 a2 bt983.1 bt983.2 bt987.1 bt987.2 bt989.1 bt989.2 (decide (a2 > 8)) a0_0 a0_1 a0_2 a0_3 a0_4 a0_5 a0_6 a0_7 a0_8 a0_9 a0_10 a0_11))))
theorem magnetolaw06_CodecEncodes.mono_l : ∀ k, (∀ y0 y1 y2 y3 y4 y5 y6 y7 y8 y9 y10 y11 y12 y13 y14 y15 y16 y17 y18 y19 y20, LeO (magnetolaw06_CodecEncodes.j0 k y0 y1 y2 y3 y4 y5 y6 y7 y8 y9 y10 y11 y12 y13 y14 y15 y16 y17 y18 y19 y20) (magnetolaw06_CodecEncodes.j0 (k + 1) y0 y1 y2 y3 y4 y5 y6 y7 y8 y9 y10 y11 y12 y13 y14 y15 y16 y17 y18 y19 y20)) ∧ (∀ y0 y1 y2 y3 y4 y5 y6 y7 y8 y9 y10 y11 y12 y13 y14 y15 y16, LeO (magnetolaw06_CodecEncodes.j1 k y0 y1 y2 y3 y4 y5 y6 y7 y8 y9 y10 y11 y12 y13 y14 y15 y16) (magnetolaw06_CodecEncodes.j1 (k + 1) y0 y1 y2 y3 y4 y5 y6 y7 y8 y9 y10 y11 y12 y13 y14 y15 y16))
 | 0 => ⟨fun _ _ _ _ _ _ _ _ _ _ _ _ _ _ _ _ _ _ _ _ _ r h => by simp [magnetolaw06_CodecEncodes.j0] at h, fun _ _ _ _ _ _ _ _ _ _ _ _ _ _ _ _ _ r h => by simp [magnetolaw06_CodecEncodes.j1] at h⟩
 | k + 1 => by
  obtain ⟨ih0, ih1⟩ := magnetolaw06_CodecEncodes.mono_l k
  refine ⟨?_, ?_⟩
  ·
   intro y0 y1 y2 y3 y4 y5 y6 y7 y8 y9 y10 y11 y12 y13 y14 y15 y16 y17 y18 y19 y20
   unfold magnetolaw06_CodecEncodes.j0
   repeat' first
   | (with_reducible exact ih0 _ _ _ _ _ _ _ _ _ _ _ _ _ _ _ _ _ _ _ _ _)
   | (with_reducible exact ih1 _ _ _ _ _ _ _ _ _ _ _ _ _ _ _ _ _)
   | (with_reducible exact codec_Encode.mono _ _ _ _ _ _ _ _ _ _ _ _ _ _)
   | (with_reducible exact codec_Length.mono _ _ _ _ _ _ _ _ _ _ _ _ _)
   | (with_reducible exact codec_Longest.mono _ _ _)
   | (with_reducible exact magnetolaw06_awake.mono _)
   | (with_reducible exact magnetolaw06_ints.mono _ _ _)
   | (with_reducible exact magnetoref03_Check.mono _ _ _ _ _ _ _ _ _ _ _ _ _)
   | (with_reducible exact magnetoref06_Encode.mono _ _ _ _ _ _ _ _ _ _ _ _ _ _)
   | (with_reducible exact LeO.refl _)
   | (with_reducible exact LeO.none _)
   | (with_reducible refine LeO.ite ?_ ?_)
   | (with_reducible refine LeO.bind ?_ (fun _ => ?_))
   | exact ih0 _ _ _ _ _ _ _ _ _ _ _ _ _ _ _ _ _ _ _ _ _
   | exact ih1 _ _ _ _ _ _ _ _ _ _ _ _ _ _ _ _ _
   | exact codec_Encode.mono _ _ _ _ _ _ _ _ _ _ _ _ _ _
   | exact codec_Length.mono _ _ _ _ _ _ _ _ _ _ _ _ _
   | exact codec_Longest.mono _ _ _
   | exact magnetolaw06_awake.mono _
   | exact magnetolaw06_ints.mono _ _ _
   | exact magnetoref03_Check.mono _ _ _ _ _ _ _ _ _ _ _ _ _
   | exact magnetoref06_Encode.mono _ _ _ _ _ _ _ _ _ _ _ _ _ _
   | exact LeO.none _
   | refine LeO.ite ?_ ?_
   | refine LeO.bind ?_ (fun _ => ?_)
  ·
   intro y0 y1 y2 y3 y4 y5 y6 y7 y8 y9 y10 y11 y12 y13 y14 y15 y16
   unfold magnetolaw06_CodecEncodes.j1
   repeat' first
   | (with_reducible exact ih0 _ _ _ _ _ _ _ _ _ _ _ _ _ _ _ _ _ _ _ _ _)
   | (with_reducible exact ih1 _ _ _ _ _ _ _ _ _ _ _ _ _ _ _ _ _)
   | (with_reducible exact codec_Encode.mono _ _ _ _ _ _ _ _ _ _ _ _ _ _)
   | (with_reducible exact codec_Length.mono _ _ _ _ _ _ _ _ _ _ _ _ _)
   | (with_reducible exact codec_Longest.mono _ _ _)
   | (with_reducible exact magnetolaw06_awake.mono _)
   | (with_reducible exact magnetolaw06_ints.mono _ _ _)
   | (with_reducible exact magnetoref03_Check.mono _ _ _ _ _ _ _ _ _ _ _ _ _)
   | (with_reducible exact magnetoref06_Encode.mono _ _ _ _ _ _ _ _ _ _ _ _ _ _)
   | (with_reducible exact LeO.refl _)
   | (with_reducible exact LeO.none _)
   | (with_reducible refine LeO.ite ?_ ?_)
   | (with_reducible refine LeO.bind ?_ (fun _ => ?_))
   | exact ih0 _ _ _ _ _ _ _ _ _ _ _ _ _ _ _ _ _ _ _ _ _
   | exact ih1 _ _ _ _ _ _ _ _ _ _ _ _ _ _ _ _ _
   | exact codec_Encode.mono _ _ _ _ _ _ _ _ _ _ _ _ _ _
   | exact codec_Length.mono _ _ _ _ _ _ _ _ _ _ _ _ _
   | exact codec_Longest.mono _ _ _
   | exact magnetolaw06_awake.mono _
   | exact magnetolaw06_ints.mono _ _ _
   | exact magnetoref03_Check.mono _ _ _ _ _ _ _ _ _ _ _ _ _
   | exact magnetoref06_Encode.mono _ _ _ _ _ _ _ _ _ _ _ _ _ _
   | exact LeO.none _
   | refine LeO.ite ?_ ?_
   | refine LeO.bind ?_ (fun _ => ?_)
theorem magnetolaw06_CodecEncodes.mono : ∀ a0 a1 a2 a3 a4 a5 a6 a7 a8 a9 a10 a11 a12 a13 k, LeO (magnetolaw06_CodecEncodes.f k a0 a1 a2 a3 a4 a5 a6 a7 a8 a9 a10 a11 a12 a13) (magnetolaw06_CodecEncodes.f (k + 1) a0 a1 a2 a3 a4 a5 a6 a7 a8 a9 a10 a11 a12 a13) := by
 intro a0 a1 a2 a3 a4 a5 a6 a7 a8 a9 a10 a11 a12 a13 k
 obtain ⟨ih0, ih1⟩ := magnetolaw06_CodecEncodes.mono_l k
 unfold magnetolaw06_CodecEncodes.f
 repeat' first
   | (with_reducible exact ih0 _ _ _ _ _ _ _ _ _ _ _ _ _ _ _ _ _ _ _ _ _)
   | (with_reducible exact ih1 _ _ _ _ _ _ _ _ _ _ _ _ _ _ _ _ _)
   | (with_reducible exact codec_Encode.mono _ _ _ _ _ _ _ _ _ _ _ _ _ _)
   | (with_reducible exact codec_Length.mono _ _ _ _ _ _ _ _ _ _ _ _ _)
   | (with_reducible exact codec_Longest.mono _ _ _)
   | (with_reducible exact magnetolaw06_awake.mono _)
   | (with_reducible exact magnetolaw06_ints.mono _ _ _)
   | (with_reducible exact magnetoref03_Check.mono _ _ _ _ _ _ _ _ _ _ _ _ _)
   | (with_reducible exact magnetoref06_Encode.mono _ _ _ _ _ _ _ _ _ _ _ _ _ _)
   | (with_reducible exact LeO.refl _)
   | (with_reducible exact LeO.none _)
   | (with_reducible refine LeO.ite ?_ ?_)
   | (with_reducible refine LeO.bind ?_ (fun _ => ?_))
   | exact ih0 _ _ _ _ _ _ _ _ _ _ _ _ _ _ _ _ _ _ _ _ _
   | exact ih1 _ _ _ _ _ _ _ _ _ _ _ _ _ _ _ _ _
   | exact codec_Encode.mono _ _ _ _ _ _ _ _ _ _ _ _ _ _
   | exact codec_Length.mono _ _ _ _ _ _ _ _ _ _ _ _ _
   | exact codec_Longest.mono _ _ _
   | exact magnetolaw06_awake.mono _
   | exact magnetolaw06_ints.mono _ _ _
   | exact magnetoref03_Check.mono _ _ _ _ _ _ _ _ _ _ _ _ _
   | exact magnetoref06_Encode.mono _ _ _ _ _ _ _ _ _ _ _ _ _ _
   | exact LeO.none _
   | refine LeO.ite ?_ ?_
   | refine LeO.bind ?_ (fun _ => ?_)
set_option maxHeartbeats 8000000 in
set_option maxRecDepth 100000 in
theorem magnetolaw06_CodecEncodes.calls (k : Nat) (a0_0 : Int) (a0_1 : Bool) (a0_2 : Bool) (a0_3 : Int) (a0_4 : Int) (a0_5 : Int) (a0_6 : Int) (a0_7 : Int) (a0_8 : Int) (a0_9 : Int) (a0_10 : Int) (a0_11 : Int) (a1 : Bool) (a2 : Int) (r : Bool) (w : World) (h : magnetolaw06_CodecEncodes.f k a0_0 a0_1 a0_2 a0_3 a0_4 a0_5 a0_6 a0_7 a0_8 a0_9 a0_10 a0_11 a1 a2 = some r) :
  Calls Try.prog 13 #[.agg #[.int .i64 a0_0, .bool a0_1, .bool a0_2, .int .i64 a0_3, .int .u8 a0_4, .int .u8 a0_5, .int .u8 a0_6, .int .u8 a0_7, .int .u8 a0_8, .int .u8 a0_9, .int .u8 a0_10, .int .u8 a0_11], .bool a1, .int .i64 a2] w fun e w' => e = .returned (.bool r) ∧ Below w.heap.size w w' := by
 have hu24 := Try.underlying24
 have HB := Aside0.mk (Below.refl w.heap.size w)
 have H : ((codec_Encode.f k a0_0 a0_1 a0_2 a0_3 a0_4 a0_5 a0_6 a0_7 a0_8 a0_9 a0_10 a0_11 a1).bind fun bt983 => ((codec_Length.f k a0_0 a0_1 a0_2 a0_3 a0_4 a0_5 a0_6 a0_7 a0_8 a0_9 a0_10 a0_11).bind fun bt987 => ((codec_Longest.f k a2 a1).bind fun bt989 => (if a2 < 0 then (magnetolaw06_CodecEncodes.j0 k a1 a2 bt983.1 bt983.2 bt987.1 bt987.2 bt989.1 bt989.2 true a0_0 a0_1 a0_2 a0_3 a0_4 a0_5 a0_6 a0_7 a0_8 a0_9 a0_10 a0_11) else (magnetolaw06_CodecEncodes.j0 k a1 a2 bt983.1 bt983.2 bt987.1 bt987.2 bt989.1 bt989.2 (decide (a2 > 8)) a0_0 a0_1 a0_2 a0_3 a0_4 a0_5 a0_6 a0_7 a0_8 a0_9 a0_10 a0_11))))) = some r := h
 clear h
 replace H := Option.bind_eq_some_iff.mp H
 obtain ⟨⟨t983, t986⟩, A40, H⟩ := H
 replace H : ((codec_Length.f k a0_0 a0_1 a0_2 a0_3 a0_4 a0_5 a0_6 a0_7 a0_8 a0_9 a0_10 a0_11).bind fun bt987 => ((codec_Longest.f k a2 a1).bind fun bt989 => (if a2 < 0 then (magnetolaw06_CodecEncodes.j0 k a1 a2 t983 t986 bt987.1 bt987.2 bt989.1 bt989.2 true a0_0 a0_1 a0_2 a0_3 a0_4 a0_5 a0_6 a0_7 a0_8 a0_9 a0_10 a0_11) else (magnetolaw06_CodecEncodes.j0 k a1 a2 t983 t986 bt987.1 bt987.2 bt989.1 bt989.2 (decide (a2 > 8)) a0_0 a0_1 a0_2 a0_3 a0_4 a0_5 a0_6 a0_7 a0_8 a0_9 a0_10 a0_11)))) = some r := H
 have A4 := Aside0.mk A40
 clear A40
 replace H := Option.bind_eq_some_iff.mp H
 obtain ⟨⟨t987, t988⟩, A50, H⟩ := H
 replace H : ((codec_Longest.f k a2 a1).bind fun bt989 => (if a2 < 0 then (magnetolaw06_CodecEncodes.j0 k a1 a2 t983 t986 t987 t988 bt989.1 bt989.2 true a0_0 a0_1 a0_2 a0_3 a0_4 a0_5 a0_6 a0_7 a0_8 a0_9 a0_10 a0_11) else (magnetolaw06_CodecEncodes.j0 k a1 a2 t983 t986 t987 t988 bt989.1 bt989.2 (decide (a2 > 8)) a0_0 a0_1 a0_2 a0_3 a0_4 a0_5 a0_6 a0_7 a0_8 a0_9 a0_10 a0_11))) = some r := H
 have A5 := Aside0.mk A50
 clear A50
 replace H := Option.bind_eq_some_iff.mp H
 obtain ⟨⟨t989, t990⟩, A60, H⟩ := H
 replace H : (if a2 < 0 then (magnetolaw06_CodecEncodes.j0 k a1 a2 t983 t986 t987 t988 t989 t990 true a0_0 a0_1 a0_2 a0_3 a0_4 a0_5 a0_6 a0_7 a0_8 a0_9 a0_10 a0_11) else (magnetolaw06_CodecEncodes.j0 k a1 a2 t983 t986 t987 t988 t989 t990 (decide (a2 > 8)) a0_0 a0_1 a0_2 a0_3 a0_4 a0_5 a0_6 a0_7 a0_8 a0_9 a0_10 a0_11)) = some r := H
 have A6 := Aside0.mk A60
 clear A60
 have HC7 := Aside0.mk H
 clear H
 go_enter Try.func13, Try.ntmps13
 go_upto_region 4 with (first | ((with_reducible refine zqar (N := 3) rfl ?_); (try (refine gate_guard (by rfl) ?_; dsimp only)); refine zqav ?hg (N := 3) ?hd (cs := #[.int .i64 a0_0, .bool a0_1, .bool a0_2, .int .i64 a0_3, .int .u8 a0_4, .int .u8 a0_5, .int .u8 a0_6, .int .u8 a0_7, .int .u8 a0_8, .int .u8 a0_9, .int .u8 a0_10, .int .u8 a0_11]) (t := 24) ?hr ?_; (case hd => rfl); (case hg => rfl); (case hr => first | (go_simp; done) | (go_simp; rfl)); intro gb982 hg w8 hbox hb; have n0_ := Aside0.mk (zqak (by repeat (with_reducible first | exact HB.out | apply zqad | apply zqac | apply zqae)) hb); have n1_ := Aside0.mk (hbox); have n2_ := Aside0.mk ((by rw [hg]; exact (zqaj (by repeat (with_reducible first | exact HB.out | apply zqad | apply zqac | apply zqae))) : w.heap.size ≤ gb982)); have n3_ := Aside0.mk ((by rw [hg]; exact (zqaj (by repeat (with_reducible first | exact HB.out | apply zqad | apply zqac | apply zqae))) : w.heap.size ≤ gb982)); clear HB; have HB := n0_; have BK982 := n1_; have GW982 := n2_; have GE982 := n3_; clear n0_ n1_ n2_ n3_; clear hb hbox hg; have hcz9_0 : w8.cell? ⟨gb982, 0, none⟩ = some (.int .i64 a0_0) := (zqab BK982.out 0).trans rfl; have hcz9_1 : w8.cell? ⟨gb982, 1, none⟩ = some (.bool a0_1) := (zqab BK982.out 1).trans rfl; have hcz9_2 : w8.cell? ⟨gb982, 2, none⟩ = some (.bool a0_2) := (zqab BK982.out 2).trans rfl; have hcz9_3 : w8.cell? ⟨gb982, 3, none⟩ = some (.int .i64 a0_3) := (zqab BK982.out 3).trans rfl; have hcz9_4 : w8.cell? ⟨gb982, 4, none⟩ = some (.int .u8 a0_4) := (zqab BK982.out 4).trans rfl; have hcz9_5 : w8.cell? ⟨gb982, 5, none⟩ = some (.int .u8 a0_5) := (zqab BK982.out 5).trans rfl; have hcz9_6 : w8.cell? ⟨gb982, 6, none⟩ = some (.int .u8 a0_6) := (zqab BK982.out 6).trans rfl; have hcz9_7 : w8.cell? ⟨gb982, 7, none⟩ = some (.int .u8 a0_7) := (zqab BK982.out 7).trans rfl; have hcz9_8 : w8.cell? ⟨gb982, 8, none⟩ = some (.int .u8 a0_8) := (zqab BK982.out 8).trans rfl; have hcz9_9 : w8.cell? ⟨gb982, 9, none⟩ = some (.int .u8 a0_9) := (zqab BK982.out 9).trans rfl; have hcz9_10 : w8.cell? ⟨gb982, 10, none⟩ = some (.int .u8 a0_10) := (zqab BK982.out 10).trans rfl; have hcz9_11 : w8.cell? ⟨gb982, 11, none⟩ = some (.int .u8 a0_11) := (zqab BK982.out 11).trans rfl; have hfz9_0 := zqaa BK982.out 0; have hfz9_1 := zqaa BK982.out 1; have hfz9_2 := zqaa BK982.out 2; have hfz9_3 := zqaa BK982.out 3; have hfz9_4 := zqaa BK982.out 4; have hfz9_5 := zqaa BK982.out 5; have hfz9_6 := zqaa BK982.out 6; have hfz9_7 := zqaa BK982.out 7; have hfz9_8 := zqaa BK982.out 8; have hfz9_9 := zqaa BK982.out 9; have hfz9_10 := zqaa BK982.out 10; have hfz9_11 := zqaa BK982.out 11) | ((with_reducible refine zqal (f := 37) rfl ?_); refine goesL_ (some 18) rfl rfl Try.func37 (by kernel_rfl) rfl #[.agg #[.int .i64 a0_0, .bool a0_1, .bool a0_2, .int .i64 a0_3, .int .u8 a0_4, .int .u8 a0_5, .int .u8 a0_6, .int .u8 a0_7, .int .u8 a0_8, .int .u8 a0_9, .int .u8 a0_10, .int .u8 a0_11], .bool a1] rfl (by (try simp only [List.map_toArray, List.map_cons, List.map_nil]); first | done | rfl | (simp only [List.length_drop, List.length_take]; rfl)) ?_; (with_reducible refine (codec_Encode.calls k a0_0 a0_1 a0_2 a0_3 a0_4 a0_5 a0_6 a0_7 a0_8 a0_9 a0_10 a0_11 a1 t983 t986 _ A4.out).mono ?_); rintro e w10 ⟨v984, rfl, ho0, hb⟩; refine ⟨_, rfl, ?_⟩; have n0_ := Aside0.mk (Kd.R_lower ho0 (zqaj (by repeat (with_reducible first | exact HB.out | apply zqad | apply zqac | apply zqae | refine zqah ?_ GE982.out)))); have n1_ := Aside0.mk (zqam (g := gb982) (o := .cells #[.int .i64 a0_0, .bool a0_1, .bool a0_2, .int .i64 a0_3, .int .u8 a0_4, .int .u8 a0_5, .int .u8 a0_6, .int .u8 a0_7, .int .u8 a0_8, .int .u8 a0_9, .int .u8 a0_10, .int .u8 a0_11] 24 (0, 0)) (by (with_reducible repeat (first | refine zqag ?_ _ | refine zqai ?_ | refine zqaf ?_ _)); exact BK982.out) hb); have n2_ := Aside0.mk (zqak (by repeat (with_reducible first | exact HB.out | apply zqad | apply zqac | apply zqae | refine zqah ?_ GE982.out)) hb); clear BK982; clear HB; have HO985 := n0_; have BK982 := n1_; have HB := n2_; clear n0_ n1_ n2_; (try clear hb); (try clear hb2); (try clear hk); (try clear hi); (try clear ho0); have hcz11_0 : w10.cell? ⟨gb982, 0, none⟩ = some (.int .i64 a0_0) := (zqab BK982.out 0).trans rfl; have hcz11_1 : w10.cell? ⟨gb982, 1, none⟩ = some (.bool a0_1) := (zqab BK982.out 1).trans rfl; have hcz11_2 : w10.cell? ⟨gb982, 2, none⟩ = some (.bool a0_2) := (zqab BK982.out 2).trans rfl; have hcz11_3 : w10.cell? ⟨gb982, 3, none⟩ = some (.int .i64 a0_3) := (zqab BK982.out 3).trans rfl; have hcz11_4 : w10.cell? ⟨gb982, 4, none⟩ = some (.int .u8 a0_4) := (zqab BK982.out 4).trans rfl; have hcz11_5 : w10.cell? ⟨gb982, 5, none⟩ = some (.int .u8 a0_5) := (zqab BK982.out 5).trans rfl; have hcz11_6 : w10.cell? ⟨gb982, 6, none⟩ = some (.int .u8 a0_6) := (zqab BK982.out 6).trans rfl; have hcz11_7 : w10.cell? ⟨gb982, 7, none⟩ = some (.int .u8 a0_7) := (zqab BK982.out 7).trans rfl; have hcz11_8 : w10.cell? ⟨gb982, 8, none⟩ = some (.int .u8 a0_8) := (zqab BK982.out 8).trans rfl; have hcz11_9 : w10.cell? ⟨gb982, 9, none⟩ = some (.int .u8 a0_9) := (zqab BK982.out 9).trans rfl; have hcz11_10 : w10.cell? ⟨gb982, 10, none⟩ = some (.int .u8 a0_10) := (zqab BK982.out 10).trans rfl; have hcz11_11 : w10.cell? ⟨gb982, 11, none⟩ = some (.int .u8 a0_11) := (zqab BK982.out 11).trans rfl; have hfz11_0 := zqaa BK982.out 0; have hfz11_1 := zqaa BK982.out 1; have hfz11_2 := zqaa BK982.out 2; have hfz11_3 := zqaa BK982.out 3; have hfz11_4 := zqaa BK982.out 4; have hfz11_5 := zqaa BK982.out 5; have hfz11_6 := zqaa BK982.out 6; have hfz11_7 := zqaa BK982.out 7; have hfz11_8 := zqaa BK982.out 8; have hfz11_9 := zqaa BK982.out 9; have hfz11_10 := zqaa BK982.out 10; have hfz11_11 := zqaa BK982.out 11) | ((with_reducible refine zqal (f := 38) rfl ?_); refine goesL_ (some 23) rfl rfl Try.func38 (by kernel_rfl) rfl #[.agg #[.int .i64 a0_0, .bool a0_1, .bool a0_2, .int .i64 a0_3, .int .u8 a0_4, .int .u8 a0_5, .int .u8 a0_6, .int .u8 a0_7, .int .u8 a0_8, .int .u8 a0_9, .int .u8 a0_10, .int .u8 a0_11]] rfl (by (try simp only [List.map_toArray, List.map_cons, List.map_nil]); first | done | rfl | (simp only [List.length_drop, List.length_take]; rfl)) ?_; (with_reducible refine (codec_Length.calls k a0_0 a0_1 a0_2 a0_3 a0_4 a0_5 a0_6 a0_7 a0_8 a0_9 a0_10 a0_11 t987 t988 _ A5.out).mono ?_); rintro e w12 ⟨rfl, hb⟩; refine ⟨_, rfl, ?_⟩; have n0_ := Aside0.mk (Kd.R_below (by (with_reducible repeat (first | apply Kd.R_alloc | apply Kd.R_drewN | apply Kd.R_drew)); exact HO985.out) hb); have n1_ := Aside0.mk (zqam (g := gb982) (o := .cells #[.int .i64 a0_0, .bool a0_1, .bool a0_2, .int .i64 a0_3, .int .u8 a0_4, .int .u8 a0_5, .int .u8 a0_6, .int .u8 a0_7, .int .u8 a0_8, .int .u8 a0_9, .int .u8 a0_10, .int .u8 a0_11] 24 (0, 0)) (by (with_reducible repeat (first | refine zqag ?_ _ | refine zqai ?_ | refine zqaf ?_ _)); exact BK982.out) hb); have n2_ := Aside0.mk (zqak (by repeat (with_reducible first | exact HB.out | apply zqad | apply zqac | apply zqae | refine zqah ?_ GE982.out)) hb); clear HO985; clear BK982; clear HB; have HO985 := n0_; have BK982 := n1_; have HB := n2_; clear n0_ n1_ n2_; (try clear hb); (try clear hb2); (try clear hk); (try clear hi)) | ((with_reducible refine zqal (f := 39) rfl ?_); refine goesL_ (some 29) rfl rfl Try.func39 (by kernel_rfl) rfl #[.int .i64 a2, .bool a1] rfl (by (try simp only [List.map_toArray, List.map_cons, List.map_nil]); first | done | rfl | (simp only [List.length_drop, List.length_take]; rfl)) ?_; (with_reducible refine (codec_Longest.calls k a2 a1 t989 t990 _ A6.out).mono ?_); rintro e w' ⟨rfl, ⟨nd, rfl⟩⟩; refine ⟨_, rfl, ?_⟩))
 (try simp only [Act.put, List.setIfInBounds_toArray, List.set_cons_zero, List.set_cons_succ])
 go_cut [37] (fun v37 wc => ∃ (kq : Nat) (x37_6 : Bool), v37 = .bool x37_6 ∧ Aside0 (magnetolaw06_CodecEncodes.j0 kq a1 a2 t983 t986 t987 t988 t989 t990 x37_6 a0_0 a0_1 a0_2 a0_3 a0_4 a0_5 a0_6 a0_7 a0_8 a0_9 a0_10 a0_11 = some r) ∧ Aside0 (kq ≤ k) ∧ Aside0 (Kd.R (Kd.int .i64) 3 wc w.heap.size (fun _ => True) v984 t983) ∧ Aside0 (wc.heap[gb982]? = some (.cells #[.int .i64 a0_0, .bool a0_1, .bool a0_2, .int .i64 a0_3, .int .u8 a0_4, .int .u8 a0_5, .int .u8 a0_6, .int .u8 a0_7, .int .u8 a0_8, .int .u8 a0_9, .int .u8 a0_10, .int .u8 a0_11] 24 (0, 0))) ∧ Aside0 (Below w.heap.size w wc))
 case first =>
  have H := HC7.out
  clear HC7
  by_cases c13 : a2 < 0
  ·
   rw [if_pos c13] at H
   have c13b0 : decide (a2 < 0) = true := decide_eq_true c13
   clear c13
   (first | rw [c13b0] | (simp only [i64_w, i32_w]; rw [c13b0]) | skip)
   have H' := Aside0.mk H
   clear H
   go_wp2
   go_meet
   case rel => exact ⟨_, (true), (by first | rfl | (simp; done) | (simp [*]; done)), H', ⟨by first | omega | exact Nat.le_refl _⟩, ⟨by (with_reducible repeat (first | apply Kd.R_alloc | apply Kd.R_drewN | apply Kd.R_drew)); exact HO985.out⟩, ⟨by (with_reducible repeat (first | refine zqag ?_ _ | refine zqai ?_ | refine zqaf ?_ _)); exact BK982.out⟩, ⟨by repeat (with_reducible first | exact HB.out | apply zqad | apply zqac | apply zqae | refine zqah ?_ GE982.out)⟩⟩
  ·
   rw [if_neg c13] at H
   have c13b0 : decide (a2 < 0) = false := decide_eq_false c13
   clear c13
   (first | rw [c13b0] | (simp only [i64_w, i32_w]; rw [c13b0]) | skip)
   have H' := Aside0.mk H
   clear H
   go_wp2
   go_meet
   case rel => exact ⟨_, (decide (a2 > 8)), (by first | rfl | (simp; done) | (simp [*]; done)), H', ⟨by first | omega | exact Nat.le_refl _⟩, ⟨by (with_reducible repeat (first | apply Kd.R_alloc | apply Kd.R_drewN | apply Kd.R_drew)); exact HO985.out⟩, ⟨by (with_reducible repeat (first | refine zqag ?_ _ | refine zqai ?_ | refine zqaf ?_ _)); exact BK982.out⟩, ⟨by repeat (with_reducible first | exact HB.out | apply zqad | apply zqac | apply zqae | refine zqah ?_ GE982.out)⟩⟩
 case rest =>
  clear HC7
  try clear c1
  try clear p2
  try clear c3
  try clear c13
  try clear c13b0
  try clear hcz11_0
  try clear hcz11_1
  try clear hcz11_10
  try clear hcz11_11
  try clear hcz11_2
  try clear hcz11_3
  try clear hcz11_4
  try clear hcz11_5
  try clear hcz11_6
  try clear hcz11_7
  try clear hcz11_8
  try clear hcz11_9
  try clear hcz9_0
  try clear hcz9_1
  try clear hcz9_10
  try clear hcz9_11
  try clear hcz9_2
  try clear hcz9_3
  try clear hcz9_4
  try clear hcz9_5
  try clear hcz9_6
  try clear hcz9_7
  try clear hcz9_8
  try clear hcz9_9
  try clear hfz11_0
  try clear hfz11_1
  try clear hfz11_10
  try clear hfz11_11
  try clear hfz11_2
  try clear hfz11_3
  try clear hfz11_4
  try clear hfz11_5
  try clear hfz11_6
  try clear hfz11_7
  try clear hfz11_8
  try clear hfz11_9
  try clear hfz9_0
  try clear hfz9_1
  try clear hfz9_10
  try clear hfz9_11
  try clear hfz9_2
  try clear hfz9_3
  try clear hfz9_4
  try clear hfz9_5
  try clear hfz9_6
  try clear hfz9_7
  try clear hfz9_8
  try clear hfz9_9
  obtain ⟨kq, x37_6, rfl, HA, HJ6, HO_7, BK982, HB⟩ := hcut
  cases kq with
  | zero => exact absurd HA.out (by simp [magnetolaw06_CodecEncodes.j0])
  | succ kj6 =>
   have H := HA.out
   clear HA
   simp only [magnetolaw06_CodecEncodes.j0] at H
   have HC14 := Aside0.mk H
   clear H
   go_upto_if 37 with (fail)
   go_cut [] (fun wc => ∃ (kq : Nat), Aside0 (magnetolaw06_CodecEncodes.j1 kq a1 t983 t986 t987 t988 a0_0 a0_1 a0_2 a0_3 a0_4 a0_5 a0_6 a0_7 a0_8 a0_9 a0_10 a0_11 = some r) ∧ Aside0 (kq ≤ kj6) ∧ Aside0 (Kd.R (Kd.int .i64) 3 wc w.heap.size (fun _ => True) v984 t983) ∧ Aside0 (wc.heap[gb982]? = some (.cells #[.int .i64 a0_0, .bool a0_1, .bool a0_2, .int .i64 a0_3, .int .u8 a0_4, .int .u8 a0_5, .int .u8 a0_6, .int .u8 a0_7, .int .u8 a0_8, .int .u8 a0_9, .int .u8 a0_10, .int .u8 a0_11] 24 (0, 0))) ∧ Aside0 (Below w.heap.size w wc))
   case first =>
    have H := HC14.out
    clear HC14
    by_cases c15 : x37_6 = true
    ·
     subst c15
     have H1 : (if t989 = 0 then (if t990 = 10 then (magnetolaw06_CodecEncodes.j1 kj6 a1 t983 t986 t987 t988 a0_0 a0_1 a0_2 a0_3 a0_4 a0_5 a0_6 a0_7 a0_8 a0_9 a0_10 a0_11) else (none)) else (none)) = some r := by rw [if_pos rfl] at H; exact H
     clear H
     have H := H1
     clear H1
     by_cases c16 : t989 = 0
     ·
      rw [if_pos c16] at H
      have c16b0 : (t989 == 0) = true := beq_iff_eq.mpr c16
      have c16b1 : (t989 != 0) = false := bne_eq_false_iff_eq.mpr c16
      clear c16
      (first | rw [c16b0] | (simp only [i64_w, i32_w]; rw [c16b0]) | skip)
      by_cases c17 : t990 = 10
      ·
       rw [if_pos c17] at H
       have c17b0 : (t990 == 10) = true := beq_iff_eq.mpr c17
       have c17b1 : (t990 != 10) = false := bne_eq_false_iff_eq.mpr c17
       clear c17
       have H' := Aside0.mk H
       clear H
       go_wp2
       go_meet
       case rel => exact ⟨_, H', ⟨by have := HJ6.out; first | omega | exact Nat.le_refl _⟩, ⟨by (with_reducible repeat (first | apply Kd.R_alloc | apply Kd.R_drewN | apply Kd.R_drew)); exact HO_7.out⟩, ⟨by (with_reducible repeat (first | refine zqag ?_ _ | refine zqai ?_ | refine zqaf ?_ _)); exact BK982.out⟩, ⟨by repeat (with_reducible first | exact HB.out | apply zqad | apply zqac | apply zqae | refine zqah ?_ GE982.out)⟩⟩
      ·
       rw [if_neg c17] at H
       exact absurd H (by simp)
     ·
      rw [if_neg c16] at H
      exact absurd H (by simp)
    ·
     replace c15 := Bool.eq_false_iff.mpr c15
     subst c15
     have H1 : (if a1 = true then (if t989 = (wrap64 ((wrap64 ((wrap64 ((wrap64 (34 + (wrap64 (8 * a2)))) + 20)) + (wrap64 (Int.tdiv (wrap64 ((wrap64 ((wrap64 (34 + (wrap64 (8 * a2)))) + 20)) - 1)) 4)))) + 10)) then (if t990 = 0 then (magnetolaw06_CodecEncodes.j1 kj6 a1 t983 t986 t987 t988 a0_0 a0_1 a0_2 a0_3 a0_4 a0_5 a0_6 a0_7 a0_8 a0_9 a0_10 a0_11) else (none)) else (none)) else (if t989 = (wrap64 ((wrap64 ((wrap64 (34 + (wrap64 (8 * a2)))) + (wrap64 (Int.tdiv (wrap64 ((wrap64 (34 + (wrap64 (8 * a2)))) - 1)) 4)))) + 10)) then (if t990 = 0 then (magnetolaw06_CodecEncodes.j1 kj6 a1 t983 t986 t987 t988 a0_0 a0_1 a0_2 a0_3 a0_4 a0_5 a0_6 a0_7 a0_8 a0_9 a0_10 a0_11) else (none)) else (none))) = some r := by rw [if_neg (show ¬ (false = true) by decide)] at H; exact H
     clear H
     have H := H1
     clear H1
     by_cases c18 : a1 = true
     ·
      subst c18
      have H1 : (if t989 = (wrap64 ((wrap64 ((wrap64 ((wrap64 (34 + (wrap64 (8 * a2)))) + 20)) + (wrap64 (Int.tdiv (wrap64 ((wrap64 ((wrap64 (34 + (wrap64 (8 * a2)))) + 20)) - 1)) 4)))) + 10)) then (if t990 = 0 then (magnetolaw06_CodecEncodes.j1 kj6 true t983 t986 t987 t988 a0_0 a0_1 a0_2 a0_3 a0_4 a0_5 a0_6 a0_7 a0_8 a0_9 a0_10 a0_11) else (none)) else (none)) = some r := by rw [if_pos rfl] at H; exact H
      clear H
      have H := H1
      clear H1
      by_cases c19 : t989 = (wrap64 ((wrap64 ((wrap64 ((wrap64 (34 + (wrap64 (8 * a2)))) + 20)) + (wrap64 (Int.tdiv (wrap64 ((wrap64 ((wrap64 (34 + (wrap64 (8 * a2)))) + 20)) - 1)) 4)))) + 10))
      ·
       rw [if_pos c19] at H
       have c19b0 : (t989 == (wrap64 ((wrap64 ((wrap64 ((wrap64 (34 + (wrap64 (8 * a2)))) + 20)) + (wrap64 (Int.tdiv (wrap64 ((wrap64 ((wrap64 (34 + (wrap64 (8 * a2)))) + 20)) - 1)) 4)))) + 10))) = true := beq_iff_eq.mpr c19
       have c19b1 : (t989 != (wrap64 ((wrap64 ((wrap64 ((wrap64 (34 + (wrap64 (8 * a2)))) + 20)) + (wrap64 (Int.tdiv (wrap64 ((wrap64 ((wrap64 (34 + (wrap64 (8 * a2)))) + 20)) - 1)) 4)))) + 10))) = false := bne_eq_false_iff_eq.mpr c19
       clear c19
       by_cases c20 : t990 = 0
       ·
        rw [if_pos c20] at H
        have c20b0 : (t990 == 0) = true := beq_iff_eq.mpr c20
        have c20b1 : (t990 != 0) = false := bne_eq_false_iff_eq.mpr c20
        clear c20
        have H' := Aside0.mk H
        clear H
        go_wp2
        go_meet
        case rel => exact ⟨_, H', ⟨by have := HJ6.out; first | omega | exact Nat.le_refl _⟩, ⟨by (with_reducible repeat (first | apply Kd.R_alloc | apply Kd.R_drewN | apply Kd.R_drew)); exact HO_7.out⟩, ⟨by (with_reducible repeat (first | refine zqag ?_ _ | refine zqai ?_ | refine zqaf ?_ _)); exact BK982.out⟩, ⟨by repeat (with_reducible first | exact HB.out | apply zqad | apply zqac | apply zqae | refine zqah ?_ GE982.out)⟩⟩
       ·
        rw [if_neg c20] at H
        exact absurd H (by simp)
      ·
       rw [if_neg c19] at H
       exact absurd H (by simp)
     ·
      replace c18 := Bool.eq_false_iff.mpr c18
      subst c18
      have H1 : (if t989 = (wrap64 ((wrap64 ((wrap64 (34 + (wrap64 (8 * a2)))) + (wrap64 (Int.tdiv (wrap64 ((wrap64 (34 + (wrap64 (8 * a2)))) - 1)) 4)))) + 10)) then (if t990 = 0 then (magnetolaw06_CodecEncodes.j1 kj6 false t983 t986 t987 t988 a0_0 a0_1 a0_2 a0_3 a0_4 a0_5 a0_6 a0_7 a0_8 a0_9 a0_10 a0_11) else (none)) else (none)) = some r := by rw [if_neg (show ¬ (false = true) by decide)] at H; exact H
      clear H
      have H := H1
      clear H1
      by_cases c21 : t989 = (wrap64 ((wrap64 ((wrap64 (34 + (wrap64 (8 * a2)))) + (wrap64 (Int.tdiv (wrap64 ((wrap64 (34 + (wrap64 (8 * a2)))) - 1)) 4)))) + 10))
      ·
       rw [if_pos c21] at H
       have c21b0 : (t989 == (wrap64 ((wrap64 ((wrap64 (34 + (wrap64 (8 * a2)))) + (wrap64 (Int.tdiv (wrap64 ((wrap64 (34 + (wrap64 (8 * a2)))) - 1)) 4)))) + 10))) = true := beq_iff_eq.mpr c21
       have c21b1 : (t989 != (wrap64 ((wrap64 ((wrap64 (34 + (wrap64 (8 * a2)))) + (wrap64 (Int.tdiv (wrap64 ((wrap64 (34 + (wrap64 (8 * a2)))) - 1)) 4)))) + 10))) = false := bne_eq_false_iff_eq.mpr c21
       clear c21
       by_cases c22 : t990 = 0
       ·
        rw [if_pos c22] at H
        have c22b0 : (t990 == 0) = true := beq_iff_eq.mpr c22
        have c22b1 : (t990 != 0) = false := bne_eq_false_iff_eq.mpr c22
        clear c22
        have H' := Aside0.mk H
        clear H
        go_wp2
        go_meet
        case rel => exact ⟨_, H', ⟨by have := HJ6.out; first | omega | exact Nat.le_refl _⟩, ⟨by (with_reducible repeat (first | apply Kd.R_alloc | apply Kd.R_drewN | apply Kd.R_drew)); exact HO_7.out⟩, ⟨by (with_reducible repeat (first | refine zqag ?_ _ | refine zqai ?_ | refine zqaf ?_ _)); exact BK982.out⟩, ⟨by repeat (with_reducible first | exact HB.out | apply zqad | apply zqac | apply zqae | refine zqah ?_ GE982.out)⟩⟩
       ·
        rw [if_neg c22] at H
        exact absurd H (by simp)
      ·
       rw [if_neg c21] at H
       exact absurd H (by simp)
   case rest =>
    clear HC14
    try clear c1
    try clear c2
    try clear p2
    try clear c3
    try clear p6
    try clear c13
    try clear c13b0
    try clear c15
    try clear c16
    try clear c16b0
    try clear c16b1
    try clear c17
    try clear c17b0
    try clear c17b1
    try clear c18
    try clear c19
    try clear c19b0
    try clear c19b1
    try clear c20
    try clear c20b0
    try clear c20b1
    try clear c21
    try clear c21b0
    try clear c21b1
    try clear c22
    try clear c22b0
    try clear c22b1
    try clear hcz11_0
    try clear hcz11_1
    try clear hcz11_10
    try clear hcz11_11
    try clear hcz11_2
    try clear hcz11_3
    try clear hcz11_4
    try clear hcz11_5
    try clear hcz11_6
    try clear hcz11_7
    try clear hcz11_8
    try clear hcz11_9
    try clear hcz9_0
    try clear hcz9_1
    try clear hcz9_10
    try clear hcz9_11
    try clear hcz9_2
    try clear hcz9_3
    try clear hcz9_4
    try clear hcz9_5
    try clear hcz9_6
    try clear hcz9_7
    try clear hcz9_8
    try clear hcz9_9
    try clear hfz11_0
    try clear hfz11_1
    try clear hfz11_10
    try clear hfz11_11
    try clear hfz11_2
    try clear hfz11_3
    try clear hfz11_4
    try clear hfz11_5
    try clear hfz11_6
    try clear hfz11_7
    try clear hfz11_8
    try clear hfz11_9
    try clear hfz9_0
    try clear hfz9_1
    try clear hfz9_10
    try clear hfz9_11
    try clear hfz9_2
    try clear hfz9_3
    try clear hfz9_4
    try clear hfz9_5
    try clear hfz9_6
    try clear hfz9_7
    try clear hfz9_8
    try clear hfz9_9
    try clear p2
    obtain ⟨kq, HA, HJ13, HO_7, BK982, HB⟩ := hcut
    cases kq with
    | zero => exact absurd HA.out (by simp [magnetolaw06_CodecEncodes.j1])
    | succ kj13 =>
     have H := HA.out
     clear HA
     simp only [magnetolaw06_CodecEncodes.j1] at H
     replace H := Option.bind_eq_some_iff.mp H
     obtain ⟨t991, A230, H⟩ := H
     replace H : (if t991 = 0 then (if t986 = 0 then ((magnetoref06_Encode.f kj13 a0_0 a0_1 a0_2 a0_3 a0_4 a0_5 a0_6 a0_7 a0_8 a0_9 a0_10 a0_11 a1).bind fun t992 => ((magnetolaw06_ints.f kj13 t983 t992).bind fun t995 => (if t995 = true then (if t987 = (t983.length : Int) then (if t988 = 0 then ((magnetolaw06_awake.f kj13).bind fun t996 => (some t996)) else (none)) else (none)) else (none)))) else (none)) else (if (t983.length : Int) = 0 then (if t986 = t991 then (if t987 = 0 then (if t988 = t991 then ((magnetolaw06_awake.f kj13).bind fun t997 => (some t997)) else (none)) else (none)) else (none)) else (none))) = some r := H
     have A23 := Aside0.mk A230
     clear A230
     by_cases c24 : t991 = 0
     ·
      rw [if_pos c24] at H
      have c24b0 : (t991 == 0) = true := beq_iff_eq.mpr c24
      have c24b1 : (t991 != 0) = false := bne_eq_false_iff_eq.mpr c24
      clear c24
      by_cases c25 : t986 = 0
      ·
       rw [if_pos c25] at H
       have c25b0 : (t986 == 0) = true := beq_iff_eq.mpr c25
       have c25b1 : (t986 != 0) = false := bne_eq_false_iff_eq.mpr c25
       clear c25
       replace H := Option.bind_eq_some_iff.mp H
       obtain ⟨t992, A260, H⟩ := H
       replace H : ((magnetolaw06_ints.f kj13 t983 t992).bind fun t995 => (if t995 = true then (if t987 = (t983.length : Int) then (if t988 = 0 then ((magnetolaw06_awake.f kj13).bind fun t996 => (some t996)) else (none)) else (none)) else (none))) = some r := H
       have A26 := Aside0.mk A260
       clear A260
       replace H := Option.bind_eq_some_iff.mp H
       obtain ⟨t995, A270, H⟩ := H
       replace H : (if t995 = true then (if t987 = (t983.length : Int) then (if t988 = 0 then ((magnetolaw06_awake.f kj13).bind fun t996 => (some t996)) else (none)) else (none)) else (none)) = some r := H
       have A27 := Aside0.mk A270
       clear A270
       by_cases c28 : t995 = true
       ·
        subst c28
        have H1 : (if t987 = (t983.length : Int) then (if t988 = 0 then ((magnetolaw06_awake.f kj13).bind fun t996 => (some t996)) else (none)) else (none)) = some r := by rw [if_pos rfl] at H; exact H
        clear H
        have H := H1
        clear H1
        by_cases c29 : t987 = (t983.length : Int)
        ·
         rw [if_pos c29] at H
         have c29b0 : (t987 == (t983.length : Int)) = true := beq_iff_eq.mpr c29
         have c29b1 : (t987 != (t983.length : Int)) = false := bne_eq_false_iff_eq.mpr c29
         clear c29
         by_cases c30 : t988 = 0
         ·
          rw [if_pos c30] at H
          have c30b0 : (t988 == 0) = true := beq_iff_eq.mpr c30
          have c30b1 : (t988 != 0) = false := bne_eq_false_iff_eq.mpr c30
          clear c30
          replace H := Option.bind_eq_some_iff.mp H
          obtain ⟨t996, A310, H⟩ := H
          replace H : (some t996) = some r := H
          have A31 := Aside0.mk A310
          clear A310
          obtain rfl := Option.some.inj H
          have hcz32_0 : wc.cell? ⟨gb982, 0, none⟩ = some (.int .i64 a0_0) := (zqab BK982.out 0).trans rfl
          have hcz32_1 : wc.cell? ⟨gb982, 1, none⟩ = some (.bool a0_1) := (zqab BK982.out 1).trans rfl
          have hcz32_2 : wc.cell? ⟨gb982, 2, none⟩ = some (.bool a0_2) := (zqab BK982.out 2).trans rfl
          have hcz32_3 : wc.cell? ⟨gb982, 3, none⟩ = some (.int .i64 a0_3) := (zqab BK982.out 3).trans rfl
          have hcz32_4 : wc.cell? ⟨gb982, 4, none⟩ = some (.int .u8 a0_4) := (zqab BK982.out 4).trans rfl
          have hcz32_5 : wc.cell? ⟨gb982, 5, none⟩ = some (.int .u8 a0_5) := (zqab BK982.out 5).trans rfl
          have hcz32_6 : wc.cell? ⟨gb982, 6, none⟩ = some (.int .u8 a0_6) := (zqab BK982.out 6).trans rfl
          have hcz32_7 : wc.cell? ⟨gb982, 7, none⟩ = some (.int .u8 a0_7) := (zqab BK982.out 7).trans rfl
          have hcz32_8 : wc.cell? ⟨gb982, 8, none⟩ = some (.int .u8 a0_8) := (zqab BK982.out 8).trans rfl
          have hcz32_9 : wc.cell? ⟨gb982, 9, none⟩ = some (.int .u8 a0_9) := (zqab BK982.out 9).trans rfl
          have hcz32_10 : wc.cell? ⟨gb982, 10, none⟩ = some (.int .u8 a0_10) := (zqab BK982.out 10).trans rfl
          have hcz32_11 : wc.cell? ⟨gb982, 11, none⟩ = some (.int .u8 a0_11) := (zqab BK982.out 11).trans rfl
          have hfz32_0 := zqaa BK982.out 0
          have hfz32_1 := zqaa BK982.out 1
          have hfz32_2 := zqaa BK982.out 2
          have hfz32_3 := zqaa BK982.out 3
          have hfz32_4 := zqaa BK982.out 4
          have hfz32_5 := zqaa BK982.out 5
          have hfz32_6 := zqaa BK982.out 6
          have hfz32_7 := zqaa BK982.out 7
          have hfz32_8 := zqaa BK982.out 8
          have hfz32_9 := zqaa BK982.out 9
          have hfz32_10 := zqaa BK982.out 10
          have hfz32_11 := zqaa BK982.out 11
          go_wp2_with (first | ((with_reducible refine zqal (f := 18) rfl ?_); refine goesL_ (some 63) rfl rfl Try.func18 (by kernel_rfl) rfl #[.agg #[.int .i64 a0_0, .bool a0_1, .bool a0_2, .int .i64 a0_3, .int .u8 a0_4, .int .u8 a0_5, .int .u8 a0_6, .int .u8 a0_7, .int .u8 a0_8, .int .u8 a0_9, .int .u8 a0_10, .int .u8 a0_11]] rfl (by (try simp only [List.map_toArray, List.map_cons, List.map_nil]); first | done | rfl | (simp only [List.length_drop, List.length_take]; rfl)) ?_; (with_reducible refine (magnetoref03_Check.calls kj13 a0_0 a0_1 a0_2 a0_3 a0_4 a0_5 a0_6 a0_7 a0_8 a0_9 a0_10 a0_11 t991 _ A23.out).mono ?_); rintro e w33 ⟨rfl, hb⟩; refine ⟨_, rfl, ?_⟩; have n0_ := Aside0.mk (Kd.R_below (by (with_reducible repeat (first | apply Kd.R_alloc | apply Kd.R_drewN | apply Kd.R_drew)); exact HO_7.out) hb); have n1_ := Aside0.mk (zqam (g := gb982) (o := .cells #[.int .i64 a0_0, .bool a0_1, .bool a0_2, .int .i64 a0_3, .int .u8 a0_4, .int .u8 a0_5, .int .u8 a0_6, .int .u8 a0_7, .int .u8 a0_8, .int .u8 a0_9, .int .u8 a0_10, .int .u8 a0_11] 24 (0, 0)) (by (with_reducible repeat (first | refine zqag ?_ _ | refine zqai ?_ | refine zqaf ?_ _)); exact BK982.out) hb); have n2_ := Aside0.mk (zqak (by repeat (with_reducible first | exact HB.out | apply zqad | apply zqac | apply zqae | refine zqah ?_ GE982.out)) hb); clear HO_7; clear BK982; clear HB; have HO_7 := n0_; have BK982 := n1_; have HB := n2_; clear n0_ n1_ n2_; (try clear hb); (try clear hb2); (try clear hk); (try clear hi); have hcz34_0 : w33.cell? ⟨gb982, 0, none⟩ = some (.int .i64 a0_0) := (zqab BK982.out 0).trans rfl; have hcz34_1 : w33.cell? ⟨gb982, 1, none⟩ = some (.bool a0_1) := (zqab BK982.out 1).trans rfl; have hcz34_2 : w33.cell? ⟨gb982, 2, none⟩ = some (.bool a0_2) := (zqab BK982.out 2).trans rfl; have hcz34_3 : w33.cell? ⟨gb982, 3, none⟩ = some (.int .i64 a0_3) := (zqab BK982.out 3).trans rfl; have hcz34_4 : w33.cell? ⟨gb982, 4, none⟩ = some (.int .u8 a0_4) := (zqab BK982.out 4).trans rfl; have hcz34_5 : w33.cell? ⟨gb982, 5, none⟩ = some (.int .u8 a0_5) := (zqab BK982.out 5).trans rfl; have hcz34_6 : w33.cell? ⟨gb982, 6, none⟩ = some (.int .u8 a0_6) := (zqab BK982.out 6).trans rfl; have hcz34_7 : w33.cell? ⟨gb982, 7, none⟩ = some (.int .u8 a0_7) := (zqab BK982.out 7).trans rfl; have hcz34_8 : w33.cell? ⟨gb982, 8, none⟩ = some (.int .u8 a0_8) := (zqab BK982.out 8).trans rfl; have hcz34_9 : w33.cell? ⟨gb982, 9, none⟩ = some (.int .u8 a0_9) := (zqab BK982.out 9).trans rfl; have hcz34_10 : w33.cell? ⟨gb982, 10, none⟩ = some (.int .u8 a0_10) := (zqab BK982.out 10).trans rfl; have hcz34_11 : w33.cell? ⟨gb982, 11, none⟩ = some (.int .u8 a0_11) := (zqab BK982.out 11).trans rfl; have hfz34_0 := zqaa BK982.out 0; have hfz34_1 := zqaa BK982.out 1; have hfz34_2 := zqaa BK982.out 2; have hfz34_3 := zqaa BK982.out 3; have hfz34_4 := zqaa BK982.out 4; have hfz34_5 := zqaa BK982.out 5; have hfz34_6 := zqaa BK982.out 6; have hfz34_7 := zqaa BK982.out 7; have hfz34_8 := zqaa BK982.out 8; have hfz34_9 := zqaa BK982.out 9; have hfz34_10 := zqaa BK982.out 10; have hfz34_11 := zqaa BK982.out 11) | (go_at_call 41; (with_reducible refine (magnetoref06_Encode.calls kj13 a0_0 a0_1 a0_2 a0_3 a0_4 a0_5 a0_6 a0_7 a0_8 a0_9 a0_10 a0_11 a1 t992 _ A26.out).mono ?_); rintro e w35 ⟨v993, rfl, ho0, hb⟩; have n0_ := Aside0.mk (Kd.R_elder' (by (with_reducible repeat (first | apply Kd.R_alloc | apply Kd.R_drewN | apply Kd.R_drew)); exact HO_7.out) (Kd.R_base ho0) hb); have n1_ := Aside0.mk (Kd.R_lower (Kd.R_new' ho0 (Kd.R_lt (by (with_reducible repeat (first | apply Kd.R_alloc | apply Kd.R_drewN | apply Kd.R_drew)); exact HO_7.out))) (zqaj (by repeat (with_reducible first | exact HB.out | apply zqad | apply zqac | apply zqae | refine zqah ?_ GE982.out)))); have n2_ := Aside0.mk (zqam (g := gb982) (o := .cells #[.int .i64 a0_0, .bool a0_1, .bool a0_2, .int .i64 a0_3, .int .u8 a0_4, .int .u8 a0_5, .int .u8 a0_6, .int .u8 a0_7, .int .u8 a0_8, .int .u8 a0_9, .int .u8 a0_10, .int .u8 a0_11] 24 (0, 0)) (by (with_reducible repeat (first | refine zqag ?_ _ | refine zqai ?_ | refine zqaf ?_ _)); exact BK982.out) hb); have n3_ := Aside0.mk (zqak (by repeat (with_reducible first | exact HB.out | apply zqad | apply zqac | apply zqae | refine zqah ?_ GE982.out)) hb); clear HO_7; clear BK982; clear HB; have HO_7 := n0_; have HO994 := n1_; have BK982 := n2_; have HB := n3_; clear n0_ n1_ n2_ n3_; (try clear hb); (try clear hb2); (try clear hk); (try clear hi); (try clear ho0); obtain ⟨Ao36, co36, eo36⟩ := Kd.R_slice HO_7.out; subst eo36; obtain ⟨Ao37, co37, eo37⟩ := Kd.R_slice HO994.out; subst eo37) | (go_at_call 40; (with_reducible refine (magnetolaw06_ints.calls kj13 _ _ t983 _ _ t992 true _ ?side1 ?side2 ?side3 ?side4 A27.out).mono ?_); (case side1 => repeat (first | exact (Kd.R_reads' HO_7.out).2.2 | (with_reducible refine Kd.C_alloc ?_ _) | (with_reducible refine Kd.C_drewN ?_ _) | (with_reducible refine Kd.C_drew ?_))); (case side2 => exact (Kd.R_reads' HO_7.out).2.1); (case side3 => repeat (first | exact (Kd.R_reads' HO994.out).2.2 | (with_reducible refine Kd.C_alloc ?_ _) | (with_reducible refine Kd.C_drewN ?_ _) | (with_reducible refine Kd.C_drew ?_))); (case side4 => exact (Kd.R_reads' HO994.out).2.1); rintro e w' ⟨rfl, ⟨nd, rfl⟩⟩) | (go_at_call 34; (with_reducible refine (magnetolaw06_awake.calls kj13  t996 _ A31.out).mono ?_); rintro e w38 ⟨rfl, hb⟩; have n0_ := Aside0.mk (Kd.R_below (by (with_reducible repeat (first | apply Kd.R_alloc | apply Kd.R_drewN | apply Kd.R_drew)); exact HO_7.out) hb); have n1_ := Aside0.mk (Kd.R_below (by (with_reducible repeat (first | apply Kd.R_alloc | apply Kd.R_drewN | apply Kd.R_drew)); exact HO994.out) hb); have n2_ := Aside0.mk (zqam (g := gb982) (o := .cells #[.int .i64 a0_0, .bool a0_1, .bool a0_2, .int .i64 a0_3, .int .u8 a0_4, .int .u8 a0_5, .int .u8 a0_6, .int .u8 a0_7, .int .u8 a0_8, .int .u8 a0_9, .int .u8 a0_10, .int .u8 a0_11] 24 (0, 0)) (by (with_reducible repeat (first | refine zqag ?_ _ | refine zqai ?_ | refine zqaf ?_ _)); exact BK982.out) hb); have n3_ := Aside0.mk (zqak (by repeat (with_reducible first | exact HB.out | apply zqad | apply zqac | apply zqae | refine zqah ?_ GE982.out)) hb); clear HO_7; clear HO994; clear BK982; clear HB; have HO_7 := n0_; have HO994 := n1_; have BK982 := n2_; have HB := n3_; clear n0_ n1_ n2_ n3_; (try clear hb); (try clear hb2); (try clear hk); (try clear hi)))
          go_ret
          exact ⟨by first | rfl | (simp [errW_none, errW_some] <;> rfl) | (simp [*, errW_none, errW_some] <;> rfl), by repeat (with_reducible first | exact HB.out | apply zqad | apply zqac | apply zqae | refine zqah ?_ GE982.out)⟩
         ·
          rw [if_neg c30] at H
          exact absurd H (by simp)
        ·
         rw [if_neg c29] at H
         exact absurd H (by simp)
       ·
        replace c28 := Bool.eq_false_iff.mpr c28
        subst c28
        have H1 : (none) = some r := by rw [if_neg (show ¬ (false = true) by decide)] at H; exact H
        clear H
        have H := H1
        clear H1
        exact absurd H (by simp)
      ·
       rw [if_neg c25] at H
       exact absurd H (by simp)
     ·
      rw [if_neg c24] at H
      have c24b0 : (t991 == 0) = false := beq_eq_false_iff_ne.mpr c24
      have c24b1 : (t991 != 0) = true := bne_iff_ne.mpr c24
      by_cases c39 : (t983.length : Int) = 0
      ·
       rw [if_pos c39] at H
       have c39b0 : ((t983.length : Int) == 0) = true := beq_iff_eq.mpr c39
       have c39b1 : ((t983.length : Int) != 0) = false := bne_eq_false_iff_eq.mpr c39
       clear c39
       by_cases c40 : t986 = t991
       ·
        rw [if_pos c40] at H
        have c40b0 : (t986 == t991) = true := beq_iff_eq.mpr c40
        have c40b1 : (t986 != t991) = false := bne_eq_false_iff_eq.mpr c40
        clear c40
        by_cases c41 : t987 = 0
        ·
         rw [if_pos c41] at H
         have c41b0 : (t987 == 0) = true := beq_iff_eq.mpr c41
         have c41b1 : (t987 != 0) = false := bne_eq_false_iff_eq.mpr c41
         clear c41
         by_cases c42 : t988 = t991
         ·
          rw [if_pos c42] at H
          have c42b0 : (t988 == t991) = true := beq_iff_eq.mpr c42
          have c42b1 : (t988 != t991) = false := bne_eq_false_iff_eq.mpr c42
          clear c42
          replace H := Option.bind_eq_some_iff.mp H
          obtain ⟨t997, A430, H⟩ := H
          replace H : (some t997) = some r := H
          have A43 := Aside0.mk A430
          clear A430
          obtain rfl := Option.some.inj H
          have hcz44_0 : wc.cell? ⟨gb982, 0, none⟩ = some (.int .i64 a0_0) := (zqab BK982.out 0).trans rfl
          have hcz44_1 : wc.cell? ⟨gb982, 1, none⟩ = some (.bool a0_1) := (zqab BK982.out 1).trans rfl
          have hcz44_2 : wc.cell? ⟨gb982, 2, none⟩ = some (.bool a0_2) := (zqab BK982.out 2).trans rfl
          have hcz44_3 : wc.cell? ⟨gb982, 3, none⟩ = some (.int .i64 a0_3) := (zqab BK982.out 3).trans rfl
          have hcz44_4 : wc.cell? ⟨gb982, 4, none⟩ = some (.int .u8 a0_4) := (zqab BK982.out 4).trans rfl
          have hcz44_5 : wc.cell? ⟨gb982, 5, none⟩ = some (.int .u8 a0_5) := (zqab BK982.out 5).trans rfl
          have hcz44_6 : wc.cell? ⟨gb982, 6, none⟩ = some (.int .u8 a0_6) := (zqab BK982.out 6).trans rfl
          have hcz44_7 : wc.cell? ⟨gb982, 7, none⟩ = some (.int .u8 a0_7) := (zqab BK982.out 7).trans rfl
          have hcz44_8 : wc.cell? ⟨gb982, 8, none⟩ = some (.int .u8 a0_8) := (zqab BK982.out 8).trans rfl
          have hcz44_9 : wc.cell? ⟨gb982, 9, none⟩ = some (.int .u8 a0_9) := (zqab BK982.out 9).trans rfl
          have hcz44_10 : wc.cell? ⟨gb982, 10, none⟩ = some (.int .u8 a0_10) := (zqab BK982.out 10).trans rfl
          have hcz44_11 : wc.cell? ⟨gb982, 11, none⟩ = some (.int .u8 a0_11) := (zqab BK982.out 11).trans rfl
          have hfz44_0 := zqaa BK982.out 0
          have hfz44_1 := zqaa BK982.out 1
          have hfz44_2 := zqaa BK982.out 2
          have hfz44_3 := zqaa BK982.out 3
          have hfz44_4 := zqaa BK982.out 4
          have hfz44_5 := zqaa BK982.out 5
          have hfz44_6 := zqaa BK982.out 6
          have hfz44_7 := zqaa BK982.out 7
          have hfz44_8 := zqaa BK982.out 8
          have hfz44_9 := zqaa BK982.out 9
          have hfz44_10 := zqaa BK982.out 10
          have hfz44_11 := zqaa BK982.out 11
          go_wp2_with (first | ((with_reducible refine zqal (f := 18) rfl ?_); refine goesL_ (some 63) rfl rfl Try.func18 (by kernel_rfl) rfl #[.agg #[.int .i64 a0_0, .bool a0_1, .bool a0_2, .int .i64 a0_3, .int .u8 a0_4, .int .u8 a0_5, .int .u8 a0_6, .int .u8 a0_7, .int .u8 a0_8, .int .u8 a0_9, .int .u8 a0_10, .int .u8 a0_11]] rfl (by (try simp only [List.map_toArray, List.map_cons, List.map_nil]); first | done | rfl | (simp only [List.length_drop, List.length_take]; rfl)) ?_; (with_reducible refine (magnetoref03_Check.calls kj13 a0_0 a0_1 a0_2 a0_3 a0_4 a0_5 a0_6 a0_7 a0_8 a0_9 a0_10 a0_11 t991 _ A23.out).mono ?_); rintro e w45 ⟨rfl, hb⟩; refine ⟨_, rfl, ?_⟩; have n0_ := Aside0.mk (Kd.R_below (by (with_reducible repeat (first | apply Kd.R_alloc | apply Kd.R_drewN | apply Kd.R_drew)); exact HO_7.out) hb); have n1_ := Aside0.mk (zqam (g := gb982) (o := .cells #[.int .i64 a0_0, .bool a0_1, .bool a0_2, .int .i64 a0_3, .int .u8 a0_4, .int .u8 a0_5, .int .u8 a0_6, .int .u8 a0_7, .int .u8 a0_8, .int .u8 a0_9, .int .u8 a0_10, .int .u8 a0_11] 24 (0, 0)) (by (with_reducible repeat (first | refine zqag ?_ _ | refine zqai ?_ | refine zqaf ?_ _)); exact BK982.out) hb); have n2_ := Aside0.mk (zqak (by repeat (with_reducible first | exact HB.out | apply zqad | apply zqac | apply zqae | refine zqah ?_ GE982.out)) hb); clear HO_7; clear BK982; clear HB; have HO_7 := n0_; have BK982 := n1_; have HB := n2_; clear n0_ n1_ n2_; (try clear hb); (try clear hb2); (try clear hk); (try clear hi); obtain ⟨Ao46, co46, eo46⟩ := Kd.R_slice HO_7.out; subst eo46) | (go_at_call 34; (with_reducible refine (magnetolaw06_awake.calls kj13  t997 _ A43.out).mono ?_); rintro e w47 ⟨rfl, hb⟩; have n0_ := Aside0.mk (Kd.R_below (by (with_reducible repeat (first | apply Kd.R_alloc | apply Kd.R_drewN | apply Kd.R_drew)); exact HO_7.out) hb); have n1_ := Aside0.mk (zqam (g := gb982) (o := .cells #[.int .i64 a0_0, .bool a0_1, .bool a0_2, .int .i64 a0_3, .int .u8 a0_4, .int .u8 a0_5, .int .u8 a0_6, .int .u8 a0_7, .int .u8 a0_8, .int .u8 a0_9, .int .u8 a0_10, .int .u8 a0_11] 24 (0, 0)) (by (with_reducible repeat (first | refine zqag ?_ _ | refine zqai ?_ | refine zqaf ?_ _)); exact BK982.out) hb); have n2_ := Aside0.mk (zqak (by repeat (with_reducible first | exact HB.out | apply zqad | apply zqac | apply zqae | refine zqah ?_ GE982.out)) hb); clear HO_7; clear BK982; clear HB; have HO_7 := n0_; have BK982 := n1_; have HB := n2_; clear n0_ n1_ n2_; (try clear hb); (try clear hb2); (try clear hk); (try clear hi)))
          go_ret
          exact ⟨by first | rfl | (simp [errW_none, errW_some] <;> rfl) | (simp [*, errW_none, errW_some] <;> rfl), by repeat (with_reducible first | exact HB.out | apply zqad | apply zqac | apply zqae | refine zqah ?_ GE982.out)⟩
         ·
          rw [if_neg c42] at H
          exact absurd H (by simp)
        ·
         rw [if_neg c41] at H
         exact absurd H (by simp)
       ·
        rw [if_neg c40] at H
        exact absurd H (by simp)
      ·
       rw [if_neg c39] at H
       exact absurd H (by simp)

-- NOT PRINTED: function 14 (magnetolaw06_CodecRows)

end Go.Proofs.Ytakemodmdhglnaa.PA
