/- Functions of the program, in plain Lean, and their walks (printed; half the indent). Conditions: none. -/
-- PRINTED by print.py (a twelfth state) out of the translation. Not trusted: Lean checks it.
import Derived.Test.YtakemodmdhglnaaPAx0
import Derived.Test.YtakemodmdhglnaaPAx13
import Derived.Test.YtakemodmdhglnaaPAx33
namespace Go.Proofs.Ytakemodmdhglnaa.PA
open Go.RowKit Go.Proofs.YtakemodmdhglnaaW.PrintWords Go.Proofs.YtakemodmdhglnaaW.PrintLast Go.Proofs.YtakemodmdhglnaaW.PrintMore
attribute [local go_sem] zqbb zqaz zqbd zqbe zqax zqay zqba zqbc   -- for this text's walks alone
set_option linter.unusedVariables false
set_option linter.unusedSimpArgs false

/-! ### codec_Encode: function 37 -/
def codec_Encode.f (k : Nat) (a0_0 : Int) (a0_1 : Bool) (a0_2 : Bool) (a0_3 : Int) (a0_4 : Int) (a0_5 : Int) (a0_6 : Int) (a0_7 : Int) (a0_8 : Int) (a0_9 : Int) (a0_10 : Int) (a0_11 : Int) (a1 : Bool) : Option (List Int × Int) := (field_All.f k a0_0 a0_1 a0_2 a0_3 a0_4 a0_5 a0_6 a0_7 a0_8 a0_9 a0_10 a0_11).bind fun bt646 => (if bt646.2 = 0 then (if 0 ≤ (wrap64 ((bt646.1.length : Int) - 10)) then (if (wrap64 ((bt646.1.length : Int) - 10)) ≤ (bt646.1.length : Int) then ((stuff_Add.f (bt646.1.take ((wrap64 ((bt646.1.length : Int) - 10)) : Int).toNat)).bind fun t654 => ((some (bt646.1.drop ((wrap64 ((bt646.1.length : Int) - 10)) : Int).toNat : List Int)).bind fun y657 => (if t654.length + y657.length < 17592186044416 then ((some (t654 ++ y657 : List Int)).bind fun y661 => (if a1 = true then (if 0 ≤ (wrap64 ((wrap64 ((y661.length : Int) - 10)) + 1)) then (if (wrap64 ((wrap64 ((y661.length : Int) - 10)) + 1)) < (y661.length : Int) then (some ((y661.set ((wrap64 ((wrap64 ((y661.length : Int) - 10)) + 1)) : Int).toNat 0), 0)) else (none)) else (none)) else (some (y661, 0)))) else (none)))) else (none)) else (none)) else (some (([] : List Int), bt646.2)))
theorem codec_Encode.mono : ∀ a0 a1 a2 a3 a4 a5 a6 a7 a8 a9 a10 a11 a12 k, LeO (codec_Encode.f k a0 a1 a2 a3 a4 a5 a6 a7 a8 a9 a10 a11 a12) (codec_Encode.f (k + 1) a0 a1 a2 a3 a4 a5 a6 a7 a8 a9 a10 a11 a12) := by
 intro a0 a1 a2 a3 a4 a5 a6 a7 a8 a9 a10 a11 a12 k
 unfold codec_Encode.f
 repeat' first
   | (with_reducible exact field_All.mono _ _ _ _ _ _ _ _ _ _ _ _ _)
   | (with_reducible exact LeO.refl _)
   | (with_reducible exact LeO.none _)
   | (with_reducible refine LeO.ite ?_ ?_)
   | (with_reducible refine LeO.bind ?_ (fun _ => ?_))
   | exact field_All.mono _ _ _ _ _ _ _ _ _ _ _ _ _
   | exact LeO.none _
   | refine LeO.ite ?_ ?_
   | refine LeO.bind ?_ (fun _ => ?_)
def codec_Encode.T5 : Bool × List (List Nat × List Nat) := (true, [([], []), ([], []), ([0, 1], [0, 1]), ([2], [2]), ([], []), ([], []), ([4, 5], [4, 5]), ([3, 6, 3], [3, 6]), ([7, 7, 0, 1, 2, 3, 4, 5, 6, 7], [7])])
def codec_Encode.B5 : List Nat := [0, 0, 3, 7, 0, 0, 48, 127, 255]
theorem codec_Encode.tab5 : rtab .any (opsOf Try.f37 5) = codec_Encode.T5 := by kernel_rfl
theorem codec_Encode.bits5 : zqbk codec_Encode.T5.2 codec_Encode.B5 = true := by kernel_rfl
set_option maxHeartbeats 8000000 in
set_option maxRecDepth 100000 in
theorem codec_Encode.calls (k : Nat) (a0_0 : Int) (a0_1 : Bool) (a0_2 : Bool) (a0_3 : Int) (a0_4 : Int) (a0_5 : Int) (a0_6 : Int) (a0_7 : Int) (a0_8 : Int) (a0_9 : Int) (a0_10 : Int) (a0_11 : Int) (a1 : Bool) (r1 : List Int) (r2 : Int) (w : World) (h : codec_Encode.f k a0_0 a0_1 a0_2 a0_3 a0_4 a0_5 a0_6 a0_7 a0_8 a0_9 a0_10 a0_11 a1 = some (r1, r2)) :
  Calls Try.prog 37 #[.agg #[.int .i64 a0_0, .bool a0_1, .bool a0_2, .int .i64 a0_3, .int .u8 a0_4, .int .u8 a0_5, .int .u8 a0_6, .int .u8 a0_7, .int .u8 a0_8, .int .u8 a0_9, .int .u8 a0_10, .int .u8 a0_11], .bool a1] w fun e w' => ∃ v0_ : Value, e = .returned (.tuple #[v0_, .int .i64 r2]) ∧ Kd.R (Kd.int .i64) 3 w' w.heap.size (fun _ => True) v0_ r1 ∧ Below w.heap.size w w' := by
 have hu24 := Try.underlying24
 have HB := Aside0.mk (Below.refl w.heap.size w)
 have H : ((field_All.f k a0_0 a0_1 a0_2 a0_3 a0_4 a0_5 a0_6 a0_7 a0_8 a0_9 a0_10 a0_11).bind fun bt646 => (if bt646.2 = 0 then (if 0 ≤ (wrap64 ((bt646.1.length : Int) - 10)) then (if (wrap64 ((bt646.1.length : Int) - 10)) ≤ (bt646.1.length : Int) then ((stuff_Add.f (bt646.1.take ((wrap64 ((bt646.1.length : Int) - 10)) : Int).toNat)).bind fun t654 => ((some (bt646.1.drop ((wrap64 ((bt646.1.length : Int) - 10)) : Int).toNat : List Int)).bind fun y657 => (if t654.length + y657.length < 17592186044416 then ((some (t654 ++ y657 : List Int)).bind fun y661 => (if a1 = true then (if 0 ≤ (wrap64 ((wrap64 ((y661.length : Int) - 10)) + 1)) then (if (wrap64 ((wrap64 ((y661.length : Int) - 10)) + 1)) < (y661.length : Int) then (some ((y661.set ((wrap64 ((wrap64 ((y661.length : Int) - 10)) + 1)) : Int).toNat 0), 0)) else (none)) else (none)) else (some (y661, 0)))) else (none)))) else (none)) else (none)) else (some (([] : List Int), bt646.2)))) = some (r1, r2) := h
 clear h
 replace H := Option.bind_eq_some_iff.mp H
 obtain ⟨⟨t646, t649⟩, A30, H⟩ := H
 replace H : (if t649 = 0 then (if 0 ≤ (wrap64 ((t646.length : Int) - 10)) then (if (wrap64 ((t646.length : Int) - 10)) ≤ (t646.length : Int) then ((stuff_Add.f (t646.take ((wrap64 ((t646.length : Int) - 10)) : Int).toNat)).bind fun t654 => ((some (t646.drop ((wrap64 ((t646.length : Int) - 10)) : Int).toNat : List Int)).bind fun y657 => (if t654.length + y657.length < 17592186044416 then ((some (t654 ++ y657 : List Int)).bind fun y661 => (if a1 = true then (if 0 ≤ (wrap64 ((wrap64 ((y661.length : Int) - 10)) + 1)) then (if (wrap64 ((wrap64 ((y661.length : Int) - 10)) + 1)) < (y661.length : Int) then (some ((y661.set ((wrap64 ((wrap64 ((y661.length : Int) - 10)) + 1)) : Int).toNat 0), 0)) else (none)) else (none)) else (some (y661, 0)))) else (none)))) else (none)) else (none)) else (some (([] : List Int), t649))) = some (r1, r2) := H
 have A3 := Aside0.mk A30
 clear A30
 by_cases c4 : t649 = 0
 ·
  rw [if_pos c4] at H
  have c4b0 : (t649 == 0) = true := beq_iff_eq.mpr c4
  have c4b1 : (t649 != 0) = false := bne_eq_false_iff_eq.mpr c4
  clear c4
  obtain ⟨ji5, hji5⟩ : ∃ j_ : Int, (wrap64 ((t646.length : Int) - 10)) = j_ := ⟨_, rfl⟩
  replace H : (if 0 ≤ (ji5) then (if (ji5) ≤ (t646.length : Int) then ((stuff_Add.f (t646.take ((ji5) : Int).toNat)).bind fun t654 => ((some (t646.drop ((ji5) : Int).toNat : List Int)).bind fun y657 => (if t654.length + y657.length < 17592186044416 then ((some (t654 ++ y657 : List Int)).bind fun y661 => (if a1 = true then (if 0 ≤ (wrap64 ((wrap64 ((y661.length : Int) - 10)) + 1)) then (if (wrap64 ((wrap64 ((y661.length : Int) - 10)) + 1)) < (y661.length : Int) then (some ((y661.set ((wrap64 ((wrap64 ((y661.length : Int) - 10)) + 1)) : Int).toNat 0), 0)) else (none)) else (none)) else (some (y661, 0)))) else (none)))) else (none)) else (none)) = some (r1, r2) := by first | (rw [hji5] at H; exact H) | (simp only [hji5] at H ⊢; exact H)
  (try rw [hji5] at A3)
  have hji5w : (IntKind.i64.wrap ((t646.length : Int) - 10)) = ji5 := (i64_w _).trans hji5
  by_cases c6 : 0 ≤ (ji5)
  ·
   rw [if_pos c6] at H
   have c6b0 := eq_true c6
   have c6b1 : decide (0 ≤ (ji5)) = true := decide_eq_true c6
   clear c6
   by_cases c7 : (ji5) ≤ (t646.length : Int)
   ·
    rw [if_pos c7] at H
    have c7b0 := eq_true c7
    have c7b1 : decide ((ji5) ≤ (t646.length : Int)) = true := decide_eq_true c7
    clear c7
    obtain ⟨y650, hy650⟩ : ∃ y_ : List Int, y_ = (t646.take ((ji5) : Int).toNat) := ⟨_, rfl⟩
    replace H : ((stuff_Add.f y650).bind fun t654 => ((some (t646.drop ((ji5) : Int).toNat : List Int)).bind fun y657 => (if t654.length + y657.length < 17592186044416 then ((some (t654 ++ y657 : List Int)).bind fun y661 => (if a1 = true then (if 0 ≤ (wrap64 ((wrap64 ((y661.length : Int) - 10)) + 1)) then (if (wrap64 ((wrap64 ((y661.length : Int) - 10)) + 1)) < (y661.length : Int) then (some ((y661.set ((wrap64 ((wrap64 ((y661.length : Int) - 10)) + 1)) : Int).toNat 0), 0)) else (none)) else (none)) else (some (y661, 0)))) else (none)))) = some (r1, r2) := by first | (rw [hy650]; with_reducible exact H) | (have H2_ := (Option.bind_some _ _).symm.trans H; rw [hy650]; with_reducible exact H2_) | (have H2_ := (Option.bind_some _ _).symm.trans H; with_reducible exact H2_) | with_reducible exact H | (rw [hy650]; exact H) | exact H
    have Ny650 := Aside0.mk hy650
    clear hy650
    replace H := Option.bind_eq_some_iff.mp H
    obtain ⟨t654, A80, H⟩ := H
    replace H : ((some (t646.drop ((ji5) : Int).toNat : List Int)).bind fun y657 => (if t654.length + y657.length < 17592186044416 then ((some (t654 ++ y657 : List Int)).bind fun y661 => (if a1 = true then (if 0 ≤ (wrap64 ((wrap64 ((y661.length : Int) - 10)) + 1)) then (if (wrap64 ((wrap64 ((y661.length : Int) - 10)) + 1)) < (y661.length : Int) then (some ((y661.set ((wrap64 ((wrap64 ((y661.length : Int) - 10)) + 1)) : Int).toNat 0), 0)) else (none)) else (none)) else (some (y661, 0)))) else (none))) = some (r1, r2) := H
    have A8 := Aside0.mk A80
    clear A80
    have c9b0 := eq_true (of_decide_eq_true (by first | (with_reducible assumption) | assumption) : 0 ≤ (ji5))
    have c10b0 := eq_true (of_decide_eq_true (by first | (with_reducible assumption) | assumption) : (ji5) ≤ (t646.length : Int))
    obtain ⟨y657, hy657⟩ : ∃ y_ : List Int, y_ = (t646.drop ((ji5) : Int).toNat) := ⟨_, rfl⟩
    replace H : (if t654.length + y657.length < 17592186044416 then ((some (t654 ++ y657 : List Int)).bind fun y661 => (if a1 = true then (if 0 ≤ (wrap64 ((wrap64 ((y661.length : Int) - 10)) + 1)) then (if (wrap64 ((wrap64 ((y661.length : Int) - 10)) + 1)) < (y661.length : Int) then (some ((y661.set ((wrap64 ((wrap64 ((y661.length : Int) - 10)) + 1)) : Int).toNat 0), 0)) else (none)) else (none)) else (some (y661, 0)))) else (none)) = some (r1, r2) := by first | (rw [hy657]; with_reducible exact H) | (have H2_ := (Option.bind_some _ _).symm.trans H; rw [hy657]; with_reducible exact H2_) | (have H2_ := (Option.bind_some _ _).symm.trans H; with_reducible exact H2_) | with_reducible exact H | (rw [hy657]; exact H) | exact H
    have Ny657 := Aside0.mk hy657
    clear hy657
    by_cases c11 : t654.length + y657.length < 17592186044416
    ·
     rw [if_pos c11] at H
     have LMc11 := Aside0.mk c11
     clear c11
     obtain ⟨y661, hy661⟩ : ∃ y_ : List Int, y_ = (t654 ++ y657) := ⟨_, rfl⟩
     replace H : (if a1 = true then (if 0 ≤ (wrap64 ((wrap64 ((y661.length : Int) - 10)) + 1)) then (if (wrap64 ((wrap64 ((y661.length : Int) - 10)) + 1)) < (y661.length : Int) then (some ((y661.set ((wrap64 ((wrap64 ((y661.length : Int) - 10)) + 1)) : Int).toNat 0), 0)) else (none)) else (none)) else (some (y661, 0))) = some (r1, r2) := by first | (rw [hy661]; with_reducible exact H) | (have H2_ := (Option.bind_some _ _).symm.trans H; rw [hy661]; with_reducible exact H2_) | (have H2_ := (Option.bind_some _ _).symm.trans H; with_reducible exact H2_) | with_reducible exact H | (rw [hy661]; exact H) | exact H
     have Ny661 := Aside0.mk hy661
     clear hy661
     by_cases c12 : a1 = true
     ·
      subst c12
      have H1 : (if 0 ≤ (wrap64 ((wrap64 ((y661.length : Int) - 10)) + 1)) then (if (wrap64 ((wrap64 ((y661.length : Int) - 10)) + 1)) < (y661.length : Int) then (some ((y661.set ((wrap64 ((wrap64 ((y661.length : Int) - 10)) + 1)) : Int).toNat 0), 0)) else (none)) else (none)) = some (r1, r2) := by rw [if_pos rfl] at H; exact H
      clear H
      have H := H1
      clear H1
      obtain ⟨ji13, hji13⟩ : ∃ j_ : Int, (wrap64 ((wrap64 ((y661.length : Int) - 10)) + 1)) = j_ := ⟨_, rfl⟩
      replace H : (if 0 ≤ (ji13) then (if (ji13) < (y661.length : Int) then (some ((y661.set ((ji13) : Int).toNat 0), 0)) else (none)) else (none)) = some (r1, r2) := by first | (rw [hji13] at H; exact H) | (simp only [hji13] at H ⊢; exact H)
      (try rw [hji13] at A3)
      (try rw [hji13] at A8)
      have hji13w : (IntKind.i64.wrap ((wrap64 ((y661.length : Int) - 10)) + 1)) = ji13 := (i64_w _).trans hji13
      by_cases c14 : 0 ≤ (ji13)
      ·
       rw [if_pos c14] at H
       have c14b0 : decide (0 ≤ (ji13)) = true := decide_eq_true c14
       clear c14
       by_cases c15 : (ji13) < (y661.length : Int)
       ·
        rw [if_pos c15] at H
        have c15b0 : decide ((ji13) < (y661.length : Int)) = true := decide_eq_true c15
        clear c15
        obtain ⟨y664, hy664⟩ : ∃ y_ : List Int, y_ = (y661.set ((ji13) : Int).toNat 0) := ⟨_, rfl⟩
        replace H : (some (y664, 0)) = some (r1, r2) := by first | (rw [hy664]; with_reducible exact H) | (have H2_ := (Option.bind_some _ _).symm.trans H; rw [hy664]; with_reducible exact H2_) | (have H2_ := (Option.bind_some _ _).symm.trans H; with_reducible exact H2_) | with_reducible exact H | (rw [hy664]; exact H) | exact H
        have Ny664 := Aside0.mk hy664
        clear hy664
        simp only [Option.some.injEq, Prod.mk.injEq] at H
        obtain ⟨rfl, rfl⟩ := H
        go_enter Try.func37, Try.ntmps37
        try go_wp2_with (first | ((with_reducible refine zqar (N := 2) rfl ?_); refine zqav ?hg (N := 2) ?hd (cs := #[.int .i64 a0_0, .bool a0_1, .bool a0_2, .int .i64 a0_3, .int .u8 a0_4, .int .u8 a0_5, .int .u8 a0_6, .int .u8 a0_7, .int .u8 a0_8, .int .u8 a0_9, .int .u8 a0_10, .int .u8 a0_11]) (t := 24) ?hr ?_; (case hd => rfl); (case hg => rfl); (case hr => first | (go_simp; done) | (go_simp; rfl)); intro gb645 hg w17 hbox hb; have n0_ := Aside0.mk (zqak (by repeat (with_reducible first | exact HB.out | apply zqad | apply zqac | apply zqae)) hb); have n1_ := Aside0.mk (hbox); have n2_ := Aside0.mk ((by rw [hg]; exact (zqaj (by repeat (with_reducible first | exact HB.out | apply zqad | apply zqac | apply zqae))) : w.heap.size ≤ gb645)); have n3_ := Aside0.mk ((by rw [hg]; exact (zqaj (by repeat (with_reducible first | exact HB.out | apply zqad | apply zqac | apply zqae))) : w.heap.size ≤ gb645)); clear HB; have HB := n0_; have BK645 := n1_; have GW645 := n2_; have GE645 := n3_; clear n0_ n1_ n2_ n3_; clear hb hbox hg; have hcz18_0 : w17.cell? ⟨gb645, 0, none⟩ = some (.int .i64 a0_0) := (zqab BK645.out 0).trans rfl; have hcz18_1 : w17.cell? ⟨gb645, 1, none⟩ = some (.bool a0_1) := (zqab BK645.out 1).trans rfl; have hcz18_2 : w17.cell? ⟨gb645, 2, none⟩ = some (.bool a0_2) := (zqab BK645.out 2).trans rfl; have hcz18_3 : w17.cell? ⟨gb645, 3, none⟩ = some (.int .i64 a0_3) := (zqab BK645.out 3).trans rfl; have hcz18_4 : w17.cell? ⟨gb645, 4, none⟩ = some (.int .u8 a0_4) := (zqab BK645.out 4).trans rfl; have hcz18_5 : w17.cell? ⟨gb645, 5, none⟩ = some (.int .u8 a0_5) := (zqab BK645.out 5).trans rfl; have hcz18_6 : w17.cell? ⟨gb645, 6, none⟩ = some (.int .u8 a0_6) := (zqab BK645.out 6).trans rfl; have hcz18_7 : w17.cell? ⟨gb645, 7, none⟩ = some (.int .u8 a0_7) := (zqab BK645.out 7).trans rfl; have hcz18_8 : w17.cell? ⟨gb645, 8, none⟩ = some (.int .u8 a0_8) := (zqab BK645.out 8).trans rfl; have hcz18_9 : w17.cell? ⟨gb645, 9, none⟩ = some (.int .u8 a0_9) := (zqab BK645.out 9).trans rfl; have hcz18_10 : w17.cell? ⟨gb645, 10, none⟩ = some (.int .u8 a0_10) := (zqab BK645.out 10).trans rfl; have hcz18_11 : w17.cell? ⟨gb645, 11, none⟩ = some (.int .u8 a0_11) := (zqab BK645.out 11).trans rfl; have hfz18_0 := zqaa BK645.out 0; have hfz18_1 := zqaa BK645.out 1; have hfz18_2 := zqaa BK645.out 2; have hfz18_3 := zqaa BK645.out 3; have hfz18_4 := zqaa BK645.out 4; have hfz18_5 := zqaa BK645.out 5; have hfz18_6 := zqaa BK645.out 6; have hfz18_7 := zqaa BK645.out 7; have hfz18_8 := zqaa BK645.out 8; have hfz18_9 := zqaa BK645.out 9; have hfz18_10 := zqaa BK645.out 10; have hfz18_11 := zqaa BK645.out 11) | ((with_reducible refine zqal (f := 17) rfl ?_); refine goesL_ (some 12) rfl rfl Try.func17 (by kernel_rfl) rfl #[.agg #[.int .i64 a0_0, .bool a0_1, .bool a0_2, .int .i64 a0_3, .int .u8 a0_4, .int .u8 a0_5, .int .u8 a0_6, .int .u8 a0_7, .int .u8 a0_8, .int .u8 a0_9, .int .u8 a0_10, .int .u8 a0_11]] rfl (by (try simp only [List.map_toArray, List.map_cons, List.map_nil]); first | done | rfl | (simp only [List.length_drop, List.length_take]; rfl)) ?_; (with_reducible refine (field_All.calls k a0_0 a0_1 a0_2 a0_3 a0_4 a0_5 a0_6 a0_7 a0_8 a0_9 a0_10 a0_11 t646 t649 _ A3.out).mono ?_); rintro e w19 ⟨v647, rfl, ho0, hb⟩; refine ⟨_, rfl, ?_⟩; have n0_ := Aside0.mk (Kd.R_lower ho0 (zqaj (by repeat (with_reducible first | exact HB.out | apply zqad | apply zqac | apply zqae | refine zqah ?_ GE645.out)))); have n1_ := Aside0.mk (zqam (g := gb645) (o := .cells #[.int .i64 a0_0, .bool a0_1, .bool a0_2, .int .i64 a0_3, .int .u8 a0_4, .int .u8 a0_5, .int .u8 a0_6, .int .u8 a0_7, .int .u8 a0_8, .int .u8 a0_9, .int .u8 a0_10, .int .u8 a0_11] 24 (0, 0)) (by (with_reducible repeat (first | refine zqag ?_ _ | refine zqai ?_ | refine zqaf ?_ _)); exact BK645.out) hb); have n2_ := Aside0.mk (zqak (by repeat (with_reducible first | exact HB.out | apply zqad | apply zqac | apply zqae | refine zqah ?_ GE645.out)) hb); clear BK645; clear HB; have HO648 := n0_; have BK645 := n1_; have HB := n2_; clear n0_ n1_ n2_; (try clear hb); (try clear hb2); (try clear hk); (try clear hi); (try clear ho0); obtain ⟨Ao20, co20, eo20⟩ := Kd.R_slice HO648.out; subst eo20))
        have n0_ := Aside0.mk (Kd.R_drew HO648.out)
        have n1_ := Aside0.mk (zqai BK645.out)
        have n2_ := Aside0.mk (zqae HB.out)
        clear HO648
        clear BK645
        clear HB
        have HO648 := n0_
        have BK645 := n1_
        have HB := n2_
        clear n0_ n1_ n2_
        have q22 : ((ji5) : Int) ≤ ((t646.length : Int) : Int) := of_decide_eq_true (by first | (with_reducible assumption) | assumption)
        obtain ⟨i022, hi022, _, hsz22, _⟩ := info_parts info3
        have hroom22 : t646.length ≤ co20 := (Kd.R_reads' HO648.out).2.1
        have hC22 : Kd.C (Kd.int .i64) _ Ao20 t646.length t646 := (Kd.R_reads' HO648.out).2.2
        have hcut22 := cut_to (P := Try.prog) 25 3 .i64 Try.underlying25 hi022 Ao20 t646.length co20 (ji5) (of_decide_eq_true (by first | (with_reducible assumption) | assumption)) q22 hroom22
        have hr22 := Kd.C_take (m := ((ji5) : Int).toNat) hC22 (by omega)
        have hy22 : y650.length = ((ji5) : Int).toNat := (by rw [Ny650.out, List.length_take]; omega)
        rw [← Ny650.out] at hr22
        rw [← hy22] at hcut22
        have HR653 := Aside0.mk hr22
        have HC653 := Aside0.mk (show y650.length ≤ co20 from by omega)
        clear hr22 hC22 hroom22 hi022 hsz22
        have KY22 := Aside0.mk hy22
        clear hy22
        have KL22 := Aside0.mk (show ((ji5) : Int).toNat ≤ t646.length from by omega)
        replace q22 := eq_true q22
        have q23 : ((ji5) : Int) ≤ ((t646.length : Int) : Int) := of_decide_eq_true (by first | (with_reducible assumption) | assumption)
        obtain ⟨i023, hi023, _, hsz23, _⟩ := info_parts info3
        have hroom23 : t646.length ≤ co20 := (Kd.R_reads' HO648.out).2.1
        have hC23 : Kd.C (Kd.int .i64) _ Ao20 t646.length t646 := (Kd.R_reads' HO648.out).2.2
        have q023 : (0 : Int) ≤ ((ji5) : Int) := of_decide_eq_true (by first | (with_reducible assumption) | assumption)
        have hcut23 := cut_from (P := Try.prog) 25 3 .i64 Try.underlying25 hi023 1 hsz23 Ao20 t646.length co20 (ji5) q023 q23
        have hr23 := Kd.C_drop (m := ((ji5) : Int).toNat) (c := co20) hC23 (by omega) hroom23
        obtain ⟨A23, hA23⟩ : ∃ A1, A1 = (if co20 = ((ji5) : Int).toNat then Ao20 else (Ao20 : Option Addr).map (·.add (((ji5) : Int).toNat * 1))) := ⟨_, rfl⟩
        obtain ⟨c23, hc23⟩ : ∃ c1, c1 = co20 - ((ji5) : Int).toNat := ⟨_, rfl⟩
        have hy23 : y657.length = t646.length - ((ji5) : Int).toNat := (by rw [Ny657.out, List.length_drop] <;> omega)
        rw [show (t646).drop ((ji5) : Int).toNat = y657 from Ny657.out.symm] at hr23
        replace hr23 : Kd.C (Kd.int .i64) _ A23 y657.length y657 := (by rw [hA23]; exact hr23)
        rw [← hy23, ← hA23, ← hc23] at hcut23
        have HR660 := Aside0.mk hr23
        have HC660 := Aside0.mk (show y657.length ≤ c23 from by rw [hy23, hc23]; exact Nat.sub_le_sub_right hroom23 _)
        clear hr23 hC23 hroom23 hi023 hsz23 hc23
        have KY23 := Aside0.mk hy23
        have KA23 := Aside0.mk hA23
        clear hy23 hA23
        have KL23 := Aside0.mk (show ((ji5) : Int).toNat ≤ t646.length from by omega)
        replace q23 := eq_true q23
        refine start_ (n := 9) (S := fun w' => True) (ds := []) #[false, false, false, false, false, false, false, false, false] (by kernel_rfl) rfl rfl trivial (fun hHeld => ?_); refine with_tabW codec_Encode.tab5 codec_Encode.bits5 (fun HT_ HW_ => ?_)
        generalize w19.drew = w21 at HO648 BK645 HB HR653 HR660 hHeld ⊢
        refine pure_ (i := 0) (N := some 21) (v := ?_) (a' := ?_) #[true, false, false, false, false, false, false, false, false] rfl rfl (any_of HT_.out (by kernel_rfl)) (fun _ _ _ h => h) (Or.inl ⟨by rfl, ?_⟩) ?_ ?_
        rotate_left
        ·
         intro w'
         go_simp
         with_reducible rfl
        rotate_left
        ·
         simp only [Act.put, List.setIfInBounds_toArray, List.set_cons_zero, List.set_cons_succ, i64_w, i32_w]
         rfl
        refine pure_ (i := 1) (N := some 22) (v := ?_) (a' := ?_) #[true, true, false, false, false, false, false, false, false] rfl rfl (any_of HT_.out (by kernel_rfl)) (fun _ _ _ h => h) (Or.inl ⟨by rfl, ?_⟩) ?_ ?_
        rotate_left
        ·
         intro w'
         go_simp
         with_reducible rfl
        rotate_left
        ·
         simp only [Act.put, List.setIfInBounds_toArray, List.set_cons_zero, List.set_cons_succ, i64_w, i32_w]
         rfl
        refine pure_ (i := 2) (N := some 23) (v := ?_) (a' := ?_) #[true, true, true, false, false, false, false, false, false] rfl rfl (any_of HT_.out (by kernel_rfl)) (fun _ _ _ h => h) (Or.inl ⟨by rfl, ?_⟩) ?_ ?_
        rotate_left
        ·
         intro w'
         go_simp
         with_reducible rfl
        rotate_left
        ·
         simp only [Act.put, List.setIfInBounds_toArray, List.set_cons_zero, List.set_cons_succ, i64_w, i32_w]
         rfl
        refine pure_ (i := 4) (N := some 25) (v := ?_) (a' := ?_) #[true, true, true, false, true, false, false, false, false] rfl rfl (any_of HT_.out (by kernel_rfl)) (fun _ _ _ h => h) (Or.inl ⟨by rfl, ?_⟩) ?_ ?_
        rotate_left
        ·
         intro w'
         go_simp
         with_reducible rfl
        rotate_left
        ·
         simp only [Act.put, List.setIfInBounds_toArray, List.set_cons_zero, List.set_cons_succ, i64_w, i32_w]
         rfl
        refine pure_ (i := 5) (N := some 26) (v := ?_) (a' := ?_) #[true, true, true, false, true, true, false, false, false] rfl rfl (any_of HT_.out (by kernel_rfl)) (fun _ _ _ h => h) (Or.inl ⟨by rfl, ?_⟩) ?_ ?_
        rotate_left
        ·
         intro w'
         go_simp
         with_reducible rfl
        rotate_left
        ·
         simp only [Act.put, List.setIfInBounds_toArray, List.set_cons_zero, List.set_cons_succ, i64_w, i32_w]
         rfl
        refine pure_ (i := 6) (N := some 27) (v := ?_) (a' := ?_) #[true, true, true, false, true, true, true, false, false] rfl rfl (any_of HT_.out (by kernel_rfl)) (fun _ _ _ h => h) (Or.inl ⟨by rfl, ?_⟩) ?_ ?_
        rotate_left
        ·
         intro w'
         go_simp
         with_reducible rfl
        rotate_left
        ·
         simp only [Act.put, List.setIfInBounds_toArray, List.set_cons_zero, List.set_cons_succ, i64_w, i32_w]
         rfl
        refine one_ (i := 3) (N := some 24) #[true, true, true, true, true, true, true, false, false] rfl rfl (one_of HT_.out (by kernel_rfl)) (by decide) (fun K hK => ?_)
        refine goes_ Try.func64 (by kernel_rfl) rfl #[.slice Ao20 y650.length co20] (by rfl) rfl rfl (by (try simp only [List.map_toArray, List.map_cons, List.map_nil]); first | done | rfl | (simp only [List.length_drop, List.length_take]; rfl)) ?_
        with_reducible refine (stuff_Add.calls _ _ y650 t654 _ ?side1 ?side2 A8.out).mono ?_
        (case side1 => repeat (first | exact (by repeat (first | (with_reducible exact HR653.out) | (with_reducible refine Kd.C_alloc ?_ _) | (with_reducible refine Kd.C_drewN ?_ _) | (with_reducible refine Kd.C_drew ?_) | exact HR653.out)) | (with_reducible refine Kd.C_alloc ?_ _) | (with_reducible refine Kd.C_drewN ?_ _) | (with_reducible refine Kd.C_drew ?_)))
        (case side2 => exact HC653.out)
        rintro e w24 ⟨v655, rfl, ho0, hb⟩
        refine ⟨_, rfl, ?_⟩
        have n0_ := Aside0.mk (Kd.R_elder' (by (with_reducible repeat (first | apply Kd.R_alloc | apply Kd.R_drewN | apply Kd.R_drew)); exact HO648.out) (Kd.R_base ho0) hb)
        have n1_ := Aside0.mk (Kd.R_lower (Kd.R_new' ho0 (Kd.R_lt (by (with_reducible repeat (first | apply Kd.R_alloc | apply Kd.R_drewN | apply Kd.R_drew)); exact HO648.out))) (zqaj (by repeat (with_reducible first | exact HB.out | apply zqad | apply zqac | apply zqae | refine zqah ?_ GE645.out))))
        have n2_ := Aside0.mk (zqam (g := gb645) (o := .cells #[.int .i64 a0_0, .bool a0_1, .bool a0_2, .int .i64 a0_3, .int .u8 a0_4, .int .u8 a0_5, .int .u8 a0_6, .int .u8 a0_7, .int .u8 a0_8, .int .u8 a0_9, .int .u8 a0_10, .int .u8 a0_11] 24 (0, 0)) (by (with_reducible repeat (first | refine zqag ?_ _ | refine zqai ?_ | refine zqaf ?_ _)); exact BK645.out) hb)
        have n3_ := Aside0.mk (Kd.C_below (by repeat (first | (with_reducible exact HR653.out) | (with_reducible refine Kd.C_alloc ?_ _) | (with_reducible refine Kd.C_drewN ?_ _) | (with_reducible refine Kd.C_drew ?_) | exact HR653.out)) hb)
        have n4_ := Aside0.mk (Kd.C_below (by repeat (first | (with_reducible exact HR660.out) | (with_reducible refine Kd.C_alloc ?_ _) | (with_reducible refine Kd.C_drewN ?_ _) | (with_reducible refine Kd.C_drew ?_) | exact HR660.out)) hb)
        have n5_ := Aside0.mk (zqak (by repeat (with_reducible first | exact HB.out | apply zqad | apply zqac | apply zqae | refine zqah ?_ GE645.out)) hb)
        clear HO648
        clear BK645
        clear HR653
        clear HR660
        clear HB
        have HO648 := n0_
        have HO656 := n1_
        have BK645 := n2_
        have HR653 := n3_
        have HR660 := n4_
        have HB := n5_
        clear n0_ n1_ n2_ n3_ n4_ n5_
        (try clear hb)
        (try clear hb2)
        (try clear hk)
        (try clear hi)
        (try clear ho0)
        refine hK.out _ _ trivial (fun hHeld => ?_)
        clear hK K
        refine norm_ (a' := ?_) ?_ ?_
        rotate_left
        ·
         show Act.put _ (some 24) _ = _
         simp only [Act.put, List.setIfInBounds_toArray, List.set_cons_zero, List.set_cons_succ, i64_w, i32_w]
         rfl
        refine one_ (i := 7) (N := some 28) #[true, true, true, true, true, true, true, true, false] rfl rfl (one_of HT_.out (by kernel_rfl)) (by decide) (fun K hK => ?_)
        refine Kd.R_append_rows_step (Kd.int .i64) (w0 := w) w.heap.size (by rfl) (.tmp 24) (.tmp 27) 25 3 (.int .i64 0) 8 rfl Try.underlying25 info3 rfl (by decide) (by omega) v655 t654 y657 _ _ _ (fun k_ => some k_ ≠ (.slice Ao20 t646.length co20 : Value).ownBlock) (fun _ => False) rfl rfl ?aO ?aR (fun _ _ h => h) (fun _ h => h.elim) ?aF ?aB ?aS ?aL ?_
        (case aR => repeat (first | exact (by repeat (first | (with_reducible exact HR660.out) | (with_reducible refine Kd.C_alloc ?_ _) | (with_reducible refine Kd.C_drewN ?_ _) | (with_reducible refine Kd.C_drew ?_) | exact HR660.out)) | (with_reducible refine Kd.C_alloc ?_ _) | (with_reducible refine Kd.C_drewN ?_ _) | (with_reducible refine Kd.C_drew ?_)))
        (case aB => exact (by repeat (with_reducible first | exact HB.out | apply zqad | apply zqac | apply zqae | refine zqah ?_ GE645.out)))
        (case aF => exact (fun k_ hk => Kd.fresh' (Kd.R_lt (by (with_reducible repeat (first | apply Kd.R_alloc | apply Kd.R_drewN | apply Kd.R_drew)); exact HO648.out)) k_ hk))
        (case aO => exact (by (with_reducible repeat (first | apply Kd.R_alloc | apply Kd.R_drewN | apply Kd.R_drew)); exact Kd.R_mono HO656.out (fun _ hk => hk.2)))
        (case aS => exact (zqaj (by repeat (with_reducible first | exact HB.out | apply zqad | apply zqac | apply zqae | refine zqah ?_ GE645.out))))
        (case aL => have := LMc11.out; omega)
        intro v662 w25 ho hb hg hat
        rw [← Ny661.out] at ho
        have n0_ := Aside0.mk (zqaw (g := gb645) (o := .cells #[.int .i64 a0_0, .bool a0_1, .bool a0_2, .int .i64 a0_3, .int .u8 a0_4, .int .u8 a0_5, .int .u8 a0_6, .int .u8 a0_7, .int .u8 a0_8, .int .u8 a0_9, .int .u8 a0_10, .int .u8 a0_11] 24 (0, 0)) (by (with_reducible repeat (first | refine zqag ?_ _ | refine zqai ?_ | refine zqaf ?_ _)); exact BK645.out) hg (Kd.R_ne HO656.out BK645.out (by decide)))
        have n1_ := Aside0.mk (Kd.R_after (ok := (fun _ => True)) (by (with_reducible repeat (first | apply Kd.R_alloc | apply Kd.R_drewN | apply Kd.R_drew)); exact HO648.out) hg hat)
        have n2_ := Aside0.mk (hb)
        have n3_ := Aside0.mk ((show Kd.C (Kd.int .i64) w25 Ao20 y650.length y650 from by rw [Ny650.out]; exact Kd.C_take (m := ((ji5) : Int).toNat) ((Kd.R_reads' (Kd.R_after (ok := (fun _ => True)) (by (with_reducible repeat (first | apply Kd.R_alloc | apply Kd.R_drewN | apply Kd.R_drew)); exact HO648.out) hg hat)).2.2) KL22.out))
        have n4_ := Aside0.mk ((show Kd.C (Kd.int .i64) w25 A23 y657.length y657 from by rw [Ny657.out, KA23.out]; exact Kd.C_drop (m := ((ji5) : Int).toNat) (c := co20) ((Kd.R_reads' (Kd.R_after (ok := (fun _ => True)) (by (with_reducible repeat (first | apply Kd.R_alloc | apply Kd.R_drewN | apply Kd.R_drew)); exact HO648.out) hg hat)).2.2) KL23.out ((Kd.R_reads' (Kd.R_after (ok := (fun _ => True)) (by (with_reducible repeat (first | apply Kd.R_alloc | apply Kd.R_drewN | apply Kd.R_drew)); exact HO648.out) hg hat)).2.1)))
        have n5_ := Aside0.mk (ho)
        clear BK645
        clear HO648
        clear HB
        clear HR653
        clear HR660
        clear HO656
        have BK645 := n0_
        have HO648 := n1_
        have HB := n2_
        have HR653 := n3_
        have HR660 := n4_
        have HO663 := n5_
        clear n0_ n1_ n2_ n3_ n4_ n5_
        clear ho hb hg hat
        refine hK.out _ _ trivial (fun hHeld => ?_)
        clear hK K
        refine norm_ (a' := ?_) ?_ ?_
        rotate_left
        ·
         show Act.put _ (some 28) _ = _
         simp only [Act.put, List.setIfInBounds_toArray, List.set_cons_zero, List.set_cons_succ, i64_w, i32_w]
         rfl
        refine pure_ (i := 8) (N := some 9) (v := ?_) (a' := ?_) #[true, true, true, true, true, true, true, true, true] rfl rfl (any_of HT_.out (by kernel_rfl)) (fun _ _ _ h => h) (Or.inl ⟨by rfl, ?_⟩) ?_ ?_
        rotate_left
        ·
         intro w'
         go_simp
         with_reducible rfl
        rotate_left
        ·
         simp only [Act.put, List.setIfInBounds_toArray, List.set_cons_zero, List.set_cons_succ, i64_w, i32_w]
         rfl
        refine done_ (done_of HT_.out (by kernel_rfl)) ?_
        obtain ⟨Ao26, co26, eo26⟩ := Kd.R_slice HO663.out
        subst eo26
        have p16 : 0 ≤ ((ji13) : Int) := of_decide_eq_true (by first | (with_reducible assumption) | assumption)
        have q16 : ((ji13) : Int) < ((y661.length : Int) : Int) := of_decide_eq_true (by first | (with_reducible assumption) | assumption)
        obtain ⟨go16, co16, eo16, gb16, gl16, cl16, HG16⟩ := Kd.R_form HO663.out (by omega)
        (first | cases eo16 | (injection eo16 with ea_ en_ ec_; (first | subst ea_ | (injection ea_ with ea_; subst ea_)); subst ec_; clear en_))
        have GB16 := Aside0.mk gb16
        have GG16 := Aside0.mk HG16
        clear gb16 gl16 HG16
        obtain ⟨hx16_0, hf16_0⟩ := Kd.R_celln 0 HO663.out ((ji13) : Int) p16 q16
        replace p16 := eq_true p16
        replace q16 := eq_true q16
        obtain ⟨hy27_, hz27_⟩ := Kd.R_celln 0 HO663.out ((ji13) : Int) (of_decide_eq_true (by first | (with_reducible assumption) | assumption)) (of_decide_eq_true (by first | (with_reducible assumption) | assumption))
        have HP27 := Kd.R_putg HO663.out ((ji13) : Int) 0
        try go_wp2_with (first | ((with_reducible refine zqau (t := 3) (p := 35) rfl ?_); refine zqap (t := 3) (p := 35) (v := ?vo_w28) (w1 := (w25.setCell ⟨go16, ((ji13) : Int).toNat, none⟩ (.int .i64 0))) ?hg ?ho ?hn ?hr ?_; (case ho => rfl); (case hg => rfl); (case hn => rfl); (case hr => first | (go_simp; done) | (go_simp; rfl)); intro w28 hw; have hg : w25.grownBy w28 (some go16) := (by rw [hw]; exact HP27.2); have hp_ : Kd.R (Kd.int .i64) 3 w28 w.heap.size (fun k_ => some k_ ≠ (.slice Ao20 t646.length co20 : Value).ownBlock) (.slice (some ⟨go16, 0, none⟩) y661.length co26) y664 := (by rw [hw, Ny664.out]; exact HP27.1); clear HP27; have n0_ := Aside0.mk (zqaw (g := gb645) (o := .cells #[.int .i64 a0_0, .bool a0_1, .bool a0_2, .int .i64 a0_3, .int .u8 a0_4, .int .u8 a0_5, .int .u8 a0_6, .int .u8 a0_7, .int .u8 a0_8, .int .u8 a0_9, .int .u8 a0_10, .int .u8 a0_11] 24 (0, 0)) (by (with_reducible repeat (first | refine zqag ?_ _ | refine zqai ?_ | refine zqaf ?_ _)); exact BK645.out) hg (Kd.R_ne HO663.out BK645.out (by decide))); have n1_ := Aside0.mk (Kd.R_after (v := (.slice (some ⟨go16, 0, none⟩) y661.length co26)) (v1 := (.slice (some ⟨go16, 0, none⟩) y661.length co26)) (ok := (fun _ => True)) (by (with_reducible repeat (first | apply Kd.R_alloc | apply Kd.R_drewN | apply Kd.R_drew)); exact HO648.out) hg (.inl rfl)); have n2_ := Aside0.mk (hp_); have n3_ := Aside0.mk ((by rw [hw]; exact zqah (HB.out) GB16.out : Below w.heap.size w w28)); have n4_ := Aside0.mk ((show Kd.C (Kd.int .i64) w28 Ao20 y650.length y650 from by rw [Ny650.out]; exact Kd.C_take (m := ((ji5) : Int).toNat) ((Kd.R_reads' (Kd.R_after (v := (.slice (some ⟨go16, 0, none⟩) y661.length co26)) (v1 := (.slice (some ⟨go16, 0, none⟩) y661.length co26)) (ok := (fun _ => True)) (by (with_reducible repeat (first | apply Kd.R_alloc | apply Kd.R_drewN | apply Kd.R_drew)); exact HO648.out) hg (.inl rfl))).2.2) KL22.out)); have n5_ := Aside0.mk ((show Kd.C (Kd.int .i64) w28 A23 y657.length y657 from by rw [Ny657.out, KA23.out]; exact Kd.C_drop (m := ((ji5) : Int).toNat) (c := co20) ((Kd.R_reads' (Kd.R_after (v := (.slice (some ⟨go16, 0, none⟩) y661.length co26)) (v1 := (.slice (some ⟨go16, 0, none⟩) y661.length co26)) (ok := (fun _ => True)) (by (with_reducible repeat (first | apply Kd.R_alloc | apply Kd.R_drewN | apply Kd.R_drew)); exact HO648.out) hg (.inl rfl))).2.2) KL23.out ((Kd.R_reads' (Kd.R_after (v := (.slice (some ⟨go16, 0, none⟩) y661.length co26)) (v1 := (.slice (some ⟨go16, 0, none⟩) y661.length co26)) (ok := (fun _ => True)) (by (with_reducible repeat (first | apply Kd.R_alloc | apply Kd.R_drewN | apply Kd.R_drew)); exact HO648.out) hg (.inl rfl))).2.1))); clear BK645; clear HO648; clear HO663; clear HB; clear HR653; clear HR660; have BK645 := n0_; have HO648 := n1_; have HO663 := n2_; have HB := n3_; have HR653 := n4_; have HR660 := n5_; clear n0_ n1_ n2_ n3_ n4_ n5_; clear hg hw hp_))
        go_ret2
        exact ⟨_, by first | rfl | (simp [errW_none, errW_some] <;> rfl) | (simp only [← hji5, ← hji13]; first | rfl | (simp [errW_none, errW_some] <;> rfl)) | (simp [*, errW_none, errW_some] <;> rfl), by (with_reducible repeat (first | apply Kd.R_alloc | apply Kd.R_drewN | apply Kd.R_drew)); exact Kd.R_mono HO663.out (fun _ hk => trivial), by repeat (with_reducible first | exact HB.out | apply zqad | apply zqac | apply zqae | refine zqah ?_ GE645.out)⟩
       ·
        rw [if_neg c15] at H
        exact absurd H (by simp)
      ·
       rw [if_neg c14] at H
       exact absurd H (by simp)
     ·
      replace c12 := Bool.eq_false_iff.mpr c12
      subst c12
      have H1 : (some (y661, 0)) = some (r1, r2) := by rw [if_neg (show ¬ (false = true) by decide)] at H; exact H
      clear H
      have H := H1
      clear H1
      simp only [Option.some.injEq, Prod.mk.injEq] at H
      obtain ⟨rfl, rfl⟩ := H
      go_enter Try.func37, Try.ntmps37
      try go_wp2_with (first | ((with_reducible refine zqar (N := 2) rfl ?_); refine zqav ?hg (N := 2) ?hd (cs := #[.int .i64 a0_0, .bool a0_1, .bool a0_2, .int .i64 a0_3, .int .u8 a0_4, .int .u8 a0_5, .int .u8 a0_6, .int .u8 a0_7, .int .u8 a0_8, .int .u8 a0_9, .int .u8 a0_10, .int .u8 a0_11]) (t := 24) ?hr ?_; (case hd => rfl); (case hg => rfl); (case hr => first | (go_simp; done) | (go_simp; rfl)); intro gb645 hg w29 hbox hb; have n0_ := Aside0.mk (zqak (by repeat (with_reducible first | exact HB.out | apply zqad | apply zqac | apply zqae)) hb); have n1_ := Aside0.mk (hbox); have n2_ := Aside0.mk ((by rw [hg]; exact (zqaj (by repeat (with_reducible first | exact HB.out | apply zqad | apply zqac | apply zqae))) : w.heap.size ≤ gb645)); have n3_ := Aside0.mk ((by rw [hg]; exact (zqaj (by repeat (with_reducible first | exact HB.out | apply zqad | apply zqac | apply zqae))) : w.heap.size ≤ gb645)); clear HB; have HB := n0_; have BK645 := n1_; have GW645 := n2_; have GE645 := n3_; clear n0_ n1_ n2_ n3_; clear hb hbox hg; have hcz30_0 : w29.cell? ⟨gb645, 0, none⟩ = some (.int .i64 a0_0) := (zqab BK645.out 0).trans rfl; have hcz30_1 : w29.cell? ⟨gb645, 1, none⟩ = some (.bool a0_1) := (zqab BK645.out 1).trans rfl; have hcz30_2 : w29.cell? ⟨gb645, 2, none⟩ = some (.bool a0_2) := (zqab BK645.out 2).trans rfl; have hcz30_3 : w29.cell? ⟨gb645, 3, none⟩ = some (.int .i64 a0_3) := (zqab BK645.out 3).trans rfl; have hcz30_4 : w29.cell? ⟨gb645, 4, none⟩ = some (.int .u8 a0_4) := (zqab BK645.out 4).trans rfl; have hcz30_5 : w29.cell? ⟨gb645, 5, none⟩ = some (.int .u8 a0_5) := (zqab BK645.out 5).trans rfl; have hcz30_6 : w29.cell? ⟨gb645, 6, none⟩ = some (.int .u8 a0_6) := (zqab BK645.out 6).trans rfl; have hcz30_7 : w29.cell? ⟨gb645, 7, none⟩ = some (.int .u8 a0_7) := (zqab BK645.out 7).trans rfl; have hcz30_8 : w29.cell? ⟨gb645, 8, none⟩ = some (.int .u8 a0_8) := (zqab BK645.out 8).trans rfl; have hcz30_9 : w29.cell? ⟨gb645, 9, none⟩ = some (.int .u8 a0_9) := (zqab BK645.out 9).trans rfl; have hcz30_10 : w29.cell? ⟨gb645, 10, none⟩ = some (.int .u8 a0_10) := (zqab BK645.out 10).trans rfl; have hcz30_11 : w29.cell? ⟨gb645, 11, none⟩ = some (.int .u8 a0_11) := (zqab BK645.out 11).trans rfl; have hfz30_0 := zqaa BK645.out 0; have hfz30_1 := zqaa BK645.out 1; have hfz30_2 := zqaa BK645.out 2; have hfz30_3 := zqaa BK645.out 3; have hfz30_4 := zqaa BK645.out 4; have hfz30_5 := zqaa BK645.out 5; have hfz30_6 := zqaa BK645.out 6; have hfz30_7 := zqaa BK645.out 7; have hfz30_8 := zqaa BK645.out 8; have hfz30_9 := zqaa BK645.out 9; have hfz30_10 := zqaa BK645.out 10; have hfz30_11 := zqaa BK645.out 11) | ((with_reducible refine zqal (f := 17) rfl ?_); refine goesL_ (some 12) rfl rfl Try.func17 (by kernel_rfl) rfl #[.agg #[.int .i64 a0_0, .bool a0_1, .bool a0_2, .int .i64 a0_3, .int .u8 a0_4, .int .u8 a0_5, .int .u8 a0_6, .int .u8 a0_7, .int .u8 a0_8, .int .u8 a0_9, .int .u8 a0_10, .int .u8 a0_11]] rfl (by (try simp only [List.map_toArray, List.map_cons, List.map_nil]); first | done | rfl | (simp only [List.length_drop, List.length_take]; rfl)) ?_; (with_reducible refine (field_All.calls k a0_0 a0_1 a0_2 a0_3 a0_4 a0_5 a0_6 a0_7 a0_8 a0_9 a0_10 a0_11 t646 t649 _ A3.out).mono ?_); rintro e w31 ⟨v647, rfl, ho0, hb⟩; refine ⟨_, rfl, ?_⟩; have n0_ := Aside0.mk (Kd.R_lower ho0 (zqaj (by repeat (with_reducible first | exact HB.out | apply zqad | apply zqac | apply zqae | refine zqah ?_ GE645.out)))); have n1_ := Aside0.mk (zqam (g := gb645) (o := .cells #[.int .i64 a0_0, .bool a0_1, .bool a0_2, .int .i64 a0_3, .int .u8 a0_4, .int .u8 a0_5, .int .u8 a0_6, .int .u8 a0_7, .int .u8 a0_8, .int .u8 a0_9, .int .u8 a0_10, .int .u8 a0_11] 24 (0, 0)) (by (with_reducible repeat (first | refine zqag ?_ _ | refine zqai ?_ | refine zqaf ?_ _)); exact BK645.out) hb); have n2_ := Aside0.mk (zqak (by repeat (with_reducible first | exact HB.out | apply zqad | apply zqac | apply zqae | refine zqah ?_ GE645.out)) hb); clear BK645; clear HB; have HO648 := n0_; have BK645 := n1_; have HB := n2_; clear n0_ n1_ n2_; (try clear hb); (try clear hb2); (try clear hk); (try clear hi); (try clear ho0); obtain ⟨Ao32, co32, eo32⟩ := Kd.R_slice HO648.out; subst eo32))
      have n0_ := Aside0.mk (Kd.R_drew HO648.out)
      have n1_ := Aside0.mk (zqai BK645.out)
      have n2_ := Aside0.mk (zqae HB.out)
      clear HO648
      clear BK645
      clear HB
      have HO648 := n0_
      have BK645 := n1_
      have HB := n2_
      clear n0_ n1_ n2_
      have q34 : ((ji5) : Int) ≤ ((t646.length : Int) : Int) := of_decide_eq_true (by first | (with_reducible assumption) | assumption)
      obtain ⟨i034, hi034, _, hsz34, _⟩ := info_parts info3
      have hroom34 : t646.length ≤ co32 := (Kd.R_reads' HO648.out).2.1
      have hC34 : Kd.C (Kd.int .i64) _ Ao32 t646.length t646 := (Kd.R_reads' HO648.out).2.2
      have hcut34 := cut_to (P := Try.prog) 25 3 .i64 Try.underlying25 hi034 Ao32 t646.length co32 (ji5) (of_decide_eq_true (by first | (with_reducible assumption) | assumption)) q34 hroom34
      have hr34 := Kd.C_take (m := ((ji5) : Int).toNat) hC34 (by omega)
      have hy34 : y650.length = ((ji5) : Int).toNat := (by rw [Ny650.out, List.length_take]; omega)
      rw [← Ny650.out] at hr34
      rw [← hy34] at hcut34
      have HR653 := Aside0.mk hr34
      have HC653 := Aside0.mk (show y650.length ≤ co32 from by omega)
      clear hr34 hC34 hroom34 hi034 hsz34
      have KY34 := Aside0.mk hy34
      clear hy34
      have KL34 := Aside0.mk (show ((ji5) : Int).toNat ≤ t646.length from by omega)
      replace q34 := eq_true q34
      have q35 : ((ji5) : Int) ≤ ((t646.length : Int) : Int) := of_decide_eq_true (by first | (with_reducible assumption) | assumption)
      obtain ⟨i035, hi035, _, hsz35, _⟩ := info_parts info3
      have hroom35 : t646.length ≤ co32 := (Kd.R_reads' HO648.out).2.1
      have hC35 : Kd.C (Kd.int .i64) _ Ao32 t646.length t646 := (Kd.R_reads' HO648.out).2.2
      have q035 : (0 : Int) ≤ ((ji5) : Int) := of_decide_eq_true (by first | (with_reducible assumption) | assumption)
      have hcut35 := cut_from (P := Try.prog) 25 3 .i64 Try.underlying25 hi035 1 hsz35 Ao32 t646.length co32 (ji5) q035 q35
      have hr35 := Kd.C_drop (m := ((ji5) : Int).toNat) (c := co32) hC35 (by omega) hroom35
      obtain ⟨A35, hA35⟩ : ∃ A1, A1 = (if co32 = ((ji5) : Int).toNat then Ao32 else (Ao32 : Option Addr).map (·.add (((ji5) : Int).toNat * 1))) := ⟨_, rfl⟩
      obtain ⟨c35, hc35⟩ : ∃ c1, c1 = co32 - ((ji5) : Int).toNat := ⟨_, rfl⟩
      have hy35 : y657.length = t646.length - ((ji5) : Int).toNat := (by rw [Ny657.out, List.length_drop] <;> omega)
      rw [show (t646).drop ((ji5) : Int).toNat = y657 from Ny657.out.symm] at hr35
      replace hr35 : Kd.C (Kd.int .i64) _ A35 y657.length y657 := (by rw [hA35]; exact hr35)
      rw [← hy35, ← hA35, ← hc35] at hcut35
      have HR660 := Aside0.mk hr35
      have HC660 := Aside0.mk (show y657.length ≤ c35 from by rw [hy35, hc35]; exact Nat.sub_le_sub_right hroom35 _)
      clear hr35 hC35 hroom35 hi035 hsz35 hc35
      have KY35 := Aside0.mk hy35
      have KA35 := Aside0.mk hA35
      clear hy35 hA35
      have KL35 := Aside0.mk (show ((ji5) : Int).toNat ≤ t646.length from by omega)
      replace q35 := eq_true q35
      refine start_ (n := 9) (S := fun w' => True) (ds := []) #[false, false, false, false, false, false, false, false, false] (by kernel_rfl) rfl rfl trivial (fun hHeld => ?_); refine with_tabW codec_Encode.tab5 codec_Encode.bits5 (fun HT_ HW_ => ?_)
      generalize w31.drew = w33 at HO648 BK645 HB HR653 HR660 hHeld ⊢
      refine pure_ (i := 0) (N := some 21) (v := ?_) (a' := ?_) #[true, false, false, false, false, false, false, false, false] rfl rfl (any_of HT_.out (by kernel_rfl)) (fun _ _ _ h => h) (Or.inl ⟨by rfl, ?_⟩) ?_ ?_
      rotate_left
      ·
       intro w'
       go_simp
       with_reducible rfl
      rotate_left
      ·
       simp only [Act.put, List.setIfInBounds_toArray, List.set_cons_zero, List.set_cons_succ, i64_w, i32_w]
       rfl
      refine pure_ (i := 1) (N := some 22) (v := ?_) (a' := ?_) #[true, true, false, false, false, false, false, false, false] rfl rfl (any_of HT_.out (by kernel_rfl)) (fun _ _ _ h => h) (Or.inl ⟨by rfl, ?_⟩) ?_ ?_
      rotate_left
      ·
       intro w'
       go_simp
       with_reducible rfl
      rotate_left
      ·
       simp only [Act.put, List.setIfInBounds_toArray, List.set_cons_zero, List.set_cons_succ, i64_w, i32_w]
       rfl
      refine pure_ (i := 2) (N := some 23) (v := ?_) (a' := ?_) #[true, true, true, false, false, false, false, false, false] rfl rfl (any_of HT_.out (by kernel_rfl)) (fun _ _ _ h => h) (Or.inl ⟨by rfl, ?_⟩) ?_ ?_
      rotate_left
      ·
       intro w'
       go_simp
       with_reducible rfl
      rotate_left
      ·
       simp only [Act.put, List.setIfInBounds_toArray, List.set_cons_zero, List.set_cons_succ, i64_w, i32_w]
       rfl
      refine pure_ (i := 4) (N := some 25) (v := ?_) (a' := ?_) #[true, true, true, false, true, false, false, false, false] rfl rfl (any_of HT_.out (by kernel_rfl)) (fun _ _ _ h => h) (Or.inl ⟨by rfl, ?_⟩) ?_ ?_
      rotate_left
      ·
       intro w'
       go_simp
       with_reducible rfl
      rotate_left
      ·
       simp only [Act.put, List.setIfInBounds_toArray, List.set_cons_zero, List.set_cons_succ, i64_w, i32_w]
       rfl
      refine pure_ (i := 5) (N := some 26) (v := ?_) (a' := ?_) #[true, true, true, false, true, true, false, false, false] rfl rfl (any_of HT_.out (by kernel_rfl)) (fun _ _ _ h => h) (Or.inl ⟨by rfl, ?_⟩) ?_ ?_
      rotate_left
      ·
       intro w'
       go_simp
       with_reducible rfl
      rotate_left
      ·
       simp only [Act.put, List.setIfInBounds_toArray, List.set_cons_zero, List.set_cons_succ, i64_w, i32_w]
       rfl
      refine pure_ (i := 6) (N := some 27) (v := ?_) (a' := ?_) #[true, true, true, false, true, true, true, false, false] rfl rfl (any_of HT_.out (by kernel_rfl)) (fun _ _ _ h => h) (Or.inl ⟨by rfl, ?_⟩) ?_ ?_
      rotate_left
      ·
       intro w'
       go_simp
       with_reducible rfl
      rotate_left
      ·
       simp only [Act.put, List.setIfInBounds_toArray, List.set_cons_zero, List.set_cons_succ, i64_w, i32_w]
       rfl
      refine one_ (i := 3) (N := some 24) #[true, true, true, true, true, true, true, false, false] rfl rfl (one_of HT_.out (by kernel_rfl)) (by decide) (fun K hK => ?_)
      refine goes_ Try.func64 (by kernel_rfl) rfl #[.slice Ao32 y650.length co32] (by rfl) rfl rfl (by (try simp only [List.map_toArray, List.map_cons, List.map_nil]); first | done | rfl | (simp only [List.length_drop, List.length_take]; rfl)) ?_
      with_reducible refine (stuff_Add.calls _ _ y650 t654 _ ?side1 ?side2 A8.out).mono ?_
      (case side1 => repeat (first | exact (by repeat (first | (with_reducible exact HR653.out) | (with_reducible refine Kd.C_alloc ?_ _) | (with_reducible refine Kd.C_drewN ?_ _) | (with_reducible refine Kd.C_drew ?_) | exact HR653.out)) | (with_reducible refine Kd.C_alloc ?_ _) | (with_reducible refine Kd.C_drewN ?_ _) | (with_reducible refine Kd.C_drew ?_)))
      (case side2 => exact HC653.out)
      rintro e w36 ⟨v655, rfl, ho0, hb⟩
      refine ⟨_, rfl, ?_⟩
      have n0_ := Aside0.mk (Kd.R_elder' (by (with_reducible repeat (first | apply Kd.R_alloc | apply Kd.R_drewN | apply Kd.R_drew)); exact HO648.out) (Kd.R_base ho0) hb)
      have n1_ := Aside0.mk (Kd.R_lower (Kd.R_new' ho0 (Kd.R_lt (by (with_reducible repeat (first | apply Kd.R_alloc | apply Kd.R_drewN | apply Kd.R_drew)); exact HO648.out))) (zqaj (by repeat (with_reducible first | exact HB.out | apply zqad | apply zqac | apply zqae | refine zqah ?_ GE645.out))))
      have n2_ := Aside0.mk (zqam (g := gb645) (o := .cells #[.int .i64 a0_0, .bool a0_1, .bool a0_2, .int .i64 a0_3, .int .u8 a0_4, .int .u8 a0_5, .int .u8 a0_6, .int .u8 a0_7, .int .u8 a0_8, .int .u8 a0_9, .int .u8 a0_10, .int .u8 a0_11] 24 (0, 0)) (by (with_reducible repeat (first | refine zqag ?_ _ | refine zqai ?_ | refine zqaf ?_ _)); exact BK645.out) hb)
      have n3_ := Aside0.mk (Kd.C_below (by repeat (first | (with_reducible exact HR653.out) | (with_reducible refine Kd.C_alloc ?_ _) | (with_reducible refine Kd.C_drewN ?_ _) | (with_reducible refine Kd.C_drew ?_) | exact HR653.out)) hb)
      have n4_ := Aside0.mk (Kd.C_below (by repeat (first | (with_reducible exact HR660.out) | (with_reducible refine Kd.C_alloc ?_ _) | (with_reducible refine Kd.C_drewN ?_ _) | (with_reducible refine Kd.C_drew ?_) | exact HR660.out)) hb)
      have n5_ := Aside0.mk (zqak (by repeat (with_reducible first | exact HB.out | apply zqad | apply zqac | apply zqae | refine zqah ?_ GE645.out)) hb)
      clear HO648
      clear BK645
      clear HR653
      clear HR660
      clear HB
      have HO648 := n0_
      have HO656 := n1_
      have BK645 := n2_
      have HR653 := n3_
      have HR660 := n4_
      have HB := n5_
      clear n0_ n1_ n2_ n3_ n4_ n5_
      (try clear hb)
      (try clear hb2)
      (try clear hk)
      (try clear hi)
      (try clear ho0)
      refine hK.out _ _ trivial (fun hHeld => ?_)
      clear hK K
      refine norm_ (a' := ?_) ?_ ?_
      rotate_left
      ·
       show Act.put _ (some 24) _ = _
       simp only [Act.put, List.setIfInBounds_toArray, List.set_cons_zero, List.set_cons_succ, i64_w, i32_w]
       rfl
      refine one_ (i := 7) (N := some 28) #[true, true, true, true, true, true, true, true, false] rfl rfl (one_of HT_.out (by kernel_rfl)) (by decide) (fun K hK => ?_)
      refine Kd.R_append_rows_step (Kd.int .i64) (w0 := w) w.heap.size (by rfl) (.tmp 24) (.tmp 27) 25 3 (.int .i64 0) 8 rfl Try.underlying25 info3 rfl (by decide) (by omega) v655 t654 y657 _ _ _ (fun k_ => some k_ ≠ (.slice Ao32 t646.length co32 : Value).ownBlock) (fun _ => False) rfl rfl ?aO ?aR (fun _ _ h => h) (fun _ h => h.elim) ?aF ?aB ?aS ?aL ?_
      (case aR => repeat (first | exact (by repeat (first | (with_reducible exact HR660.out) | (with_reducible refine Kd.C_alloc ?_ _) | (with_reducible refine Kd.C_drewN ?_ _) | (with_reducible refine Kd.C_drew ?_) | exact HR660.out)) | (with_reducible refine Kd.C_alloc ?_ _) | (with_reducible refine Kd.C_drewN ?_ _) | (with_reducible refine Kd.C_drew ?_)))
      (case aB => exact (by repeat (with_reducible first | exact HB.out | apply zqad | apply zqac | apply zqae | refine zqah ?_ GE645.out)))
      (case aF => exact (fun k_ hk => Kd.fresh' (Kd.R_lt (by (with_reducible repeat (first | apply Kd.R_alloc | apply Kd.R_drewN | apply Kd.R_drew)); exact HO648.out)) k_ hk))
      (case aO => exact (by (with_reducible repeat (first | apply Kd.R_alloc | apply Kd.R_drewN | apply Kd.R_drew)); exact Kd.R_mono HO656.out (fun _ hk => hk.2)))
      (case aS => exact (zqaj (by repeat (with_reducible first | exact HB.out | apply zqad | apply zqac | apply zqae | refine zqah ?_ GE645.out))))
      (case aL => have := LMc11.out; omega)
      intro v662 w37 ho hb hg hat
      rw [← Ny661.out] at ho
      have n0_ := Aside0.mk (zqaw (g := gb645) (o := .cells #[.int .i64 a0_0, .bool a0_1, .bool a0_2, .int .i64 a0_3, .int .u8 a0_4, .int .u8 a0_5, .int .u8 a0_6, .int .u8 a0_7, .int .u8 a0_8, .int .u8 a0_9, .int .u8 a0_10, .int .u8 a0_11] 24 (0, 0)) (by (with_reducible repeat (first | refine zqag ?_ _ | refine zqai ?_ | refine zqaf ?_ _)); exact BK645.out) hg (Kd.R_ne HO656.out BK645.out (by decide)))
      have n1_ := Aside0.mk (Kd.R_after (ok := (fun _ => True)) (by (with_reducible repeat (first | apply Kd.R_alloc | apply Kd.R_drewN | apply Kd.R_drew)); exact HO648.out) hg hat)
      have n2_ := Aside0.mk (hb)
      have n3_ := Aside0.mk ((show Kd.C (Kd.int .i64) w37 Ao32 y650.length y650 from by rw [Ny650.out]; exact Kd.C_take (m := ((ji5) : Int).toNat) ((Kd.R_reads' (Kd.R_after (ok := (fun _ => True)) (by (with_reducible repeat (first | apply Kd.R_alloc | apply Kd.R_drewN | apply Kd.R_drew)); exact HO648.out) hg hat)).2.2) KL34.out))
      have n4_ := Aside0.mk ((show Kd.C (Kd.int .i64) w37 A35 y657.length y657 from by rw [Ny657.out, KA35.out]; exact Kd.C_drop (m := ((ji5) : Int).toNat) (c := co32) ((Kd.R_reads' (Kd.R_after (ok := (fun _ => True)) (by (with_reducible repeat (first | apply Kd.R_alloc | apply Kd.R_drewN | apply Kd.R_drew)); exact HO648.out) hg hat)).2.2) KL35.out ((Kd.R_reads' (Kd.R_after (ok := (fun _ => True)) (by (with_reducible repeat (first | apply Kd.R_alloc | apply Kd.R_drewN | apply Kd.R_drew)); exact HO648.out) hg hat)).2.1)))
      have n5_ := Aside0.mk (ho)
      clear BK645
      clear HO648
      clear HB
      clear HR653
      clear HR660
      clear HO656
      have BK645 := n0_
      have HO648 := n1_
      have HB := n2_
      have HR653 := n3_
      have HR660 := n4_
      have HO663 := n5_
      clear n0_ n1_ n2_ n3_ n4_ n5_
      clear ho hb hg hat
      refine hK.out _ _ trivial (fun hHeld => ?_)
      clear hK K
      refine norm_ (a' := ?_) ?_ ?_
      rotate_left
      ·
       show Act.put _ (some 28) _ = _
       simp only [Act.put, List.setIfInBounds_toArray, List.set_cons_zero, List.set_cons_succ, i64_w, i32_w]
       rfl
      refine pure_ (i := 8) (N := some 9) (v := ?_) (a' := ?_) #[true, true, true, true, true, true, true, true, true] rfl rfl (any_of HT_.out (by kernel_rfl)) (fun _ _ _ h => h) (Or.inl ⟨by rfl, ?_⟩) ?_ ?_
      rotate_left
      ·
       intro w'
       go_simp
       with_reducible rfl
      rotate_left
      ·
       simp only [Act.put, List.setIfInBounds_toArray, List.set_cons_zero, List.set_cons_succ, i64_w, i32_w]
       rfl
      refine done_ (done_of HT_.out (by kernel_rfl)) ?_
      try go_wp2
      go_ret2
      exact ⟨_, by first | rfl | (simp [errW_none, errW_some] <;> rfl) | (simp only [← hji5]; first | rfl | (simp [errW_none, errW_some] <;> rfl)) | (simp [*, errW_none, errW_some] <;> rfl), by (with_reducible repeat (first | apply Kd.R_alloc | apply Kd.R_drewN | apply Kd.R_drew)); exact Kd.R_mono HO663.out (fun _ hk => trivial), by repeat (with_reducible first | exact HB.out | apply zqad | apply zqac | apply zqae | refine zqah ?_ GE645.out)⟩
    ·
     rw [if_neg c11] at H
     exact absurd H (by simp)
   ·
    rw [if_neg c7] at H
    exact absurd H (by simp)
  ·
   rw [if_neg c6] at H
   exact absurd H (by simp)
 ·
  rw [if_neg c4] at H
  have c4b0 : (t649 == 0) = false := beq_eq_false_iff_ne.mpr c4
  have c4b1 : (t649 != 0) = true := bne_iff_ne.mpr c4
  simp only [Option.some.injEq, Prod.mk.injEq] at H
  obtain ⟨rfl, rfl⟩ := H
  go_enter Try.func37, Try.ntmps37
  go_wp2_with (first | ((with_reducible refine zqar (N := 2) rfl ?_); refine zqav ?hg (N := 2) ?hd (cs := #[.int .i64 a0_0, .bool a0_1, .bool a0_2, .int .i64 a0_3, .int .u8 a0_4, .int .u8 a0_5, .int .u8 a0_6, .int .u8 a0_7, .int .u8 a0_8, .int .u8 a0_9, .int .u8 a0_10, .int .u8 a0_11]) (t := 24) ?hr ?_; (case hd => rfl); (case hg => rfl); (case hr => first | (go_simp; done) | (go_simp; rfl)); intro gb645 hg w38 hbox hb; have n0_ := Aside0.mk (zqak (by repeat (with_reducible first | exact HB.out | apply zqad | apply zqac | apply zqae)) hb); have n1_ := Aside0.mk (hbox); have n2_ := Aside0.mk ((by rw [hg]; exact (zqaj (by repeat (with_reducible first | exact HB.out | apply zqad | apply zqac | apply zqae))) : w.heap.size ≤ gb645)); have n3_ := Aside0.mk ((by rw [hg]; exact (zqaj (by repeat (with_reducible first | exact HB.out | apply zqad | apply zqac | apply zqae))) : w.heap.size ≤ gb645)); clear HB; have HB := n0_; have BK645 := n1_; have GW645 := n2_; have GE645 := n3_; clear n0_ n1_ n2_ n3_; clear hb hbox hg; have hcz39_0 : w38.cell? ⟨gb645, 0, none⟩ = some (.int .i64 a0_0) := (zqab BK645.out 0).trans rfl; have hcz39_1 : w38.cell? ⟨gb645, 1, none⟩ = some (.bool a0_1) := (zqab BK645.out 1).trans rfl; have hcz39_2 : w38.cell? ⟨gb645, 2, none⟩ = some (.bool a0_2) := (zqab BK645.out 2).trans rfl; have hcz39_3 : w38.cell? ⟨gb645, 3, none⟩ = some (.int .i64 a0_3) := (zqab BK645.out 3).trans rfl; have hcz39_4 : w38.cell? ⟨gb645, 4, none⟩ = some (.int .u8 a0_4) := (zqab BK645.out 4).trans rfl; have hcz39_5 : w38.cell? ⟨gb645, 5, none⟩ = some (.int .u8 a0_5) := (zqab BK645.out 5).trans rfl; have hcz39_6 : w38.cell? ⟨gb645, 6, none⟩ = some (.int .u8 a0_6) := (zqab BK645.out 6).trans rfl; have hcz39_7 : w38.cell? ⟨gb645, 7, none⟩ = some (.int .u8 a0_7) := (zqab BK645.out 7).trans rfl; have hcz39_8 : w38.cell? ⟨gb645, 8, none⟩ = some (.int .u8 a0_8) := (zqab BK645.out 8).trans rfl; have hcz39_9 : w38.cell? ⟨gb645, 9, none⟩ = some (.int .u8 a0_9) := (zqab BK645.out 9).trans rfl; have hcz39_10 : w38.cell? ⟨gb645, 10, none⟩ = some (.int .u8 a0_10) := (zqab BK645.out 10).trans rfl; have hcz39_11 : w38.cell? ⟨gb645, 11, none⟩ = some (.int .u8 a0_11) := (zqab BK645.out 11).trans rfl; have hfz39_0 := zqaa BK645.out 0; have hfz39_1 := zqaa BK645.out 1; have hfz39_2 := zqaa BK645.out 2; have hfz39_3 := zqaa BK645.out 3; have hfz39_4 := zqaa BK645.out 4; have hfz39_5 := zqaa BK645.out 5; have hfz39_6 := zqaa BK645.out 6; have hfz39_7 := zqaa BK645.out 7; have hfz39_8 := zqaa BK645.out 8; have hfz39_9 := zqaa BK645.out 9; have hfz39_10 := zqaa BK645.out 10; have hfz39_11 := zqaa BK645.out 11) | ((with_reducible refine zqal (f := 17) rfl ?_); refine goesL_ (some 12) rfl rfl Try.func17 (by kernel_rfl) rfl #[.agg #[.int .i64 a0_0, .bool a0_1, .bool a0_2, .int .i64 a0_3, .int .u8 a0_4, .int .u8 a0_5, .int .u8 a0_6, .int .u8 a0_7, .int .u8 a0_8, .int .u8 a0_9, .int .u8 a0_10, .int .u8 a0_11]] rfl (by (try simp only [List.map_toArray, List.map_cons, List.map_nil]); first | done | rfl | (simp only [List.length_drop, List.length_take]; rfl)) ?_; (with_reducible refine (field_All.calls k a0_0 a0_1 a0_2 a0_3 a0_4 a0_5 a0_6 a0_7 a0_8 a0_9 a0_10 a0_11 t646 t649 _ A3.out).mono ?_); rintro e w40 ⟨v647, rfl, ho0, hb⟩; refine ⟨_, rfl, ?_⟩; have n0_ := Aside0.mk (Kd.R_lower ho0 (zqaj (by repeat (with_reducible first | exact HB.out | apply zqad | apply zqac | apply zqae | refine zqah ?_ GE645.out)))); have n1_ := Aside0.mk (zqam (g := gb645) (o := .cells #[.int .i64 a0_0, .bool a0_1, .bool a0_2, .int .i64 a0_3, .int .u8 a0_4, .int .u8 a0_5, .int .u8 a0_6, .int .u8 a0_7, .int .u8 a0_8, .int .u8 a0_9, .int .u8 a0_10, .int .u8 a0_11] 24 (0, 0)) (by (with_reducible repeat (first | refine zqag ?_ _ | refine zqai ?_ | refine zqaf ?_ _)); exact BK645.out) hb); have n2_ := Aside0.mk (zqak (by repeat (with_reducible first | exact HB.out | apply zqad | apply zqac | apply zqae | refine zqah ?_ GE645.out)) hb); clear BK645; clear HB; have HO648 := n0_; have BK645 := n1_; have HB := n2_; clear n0_ n1_ n2_; (try clear hb); (try clear hb2); (try clear hk); (try clear hi); (try clear ho0)))
  go_ret2
  exact ⟨_, by first | rfl | (simp [errW_none, errW_some] <;> rfl) | (simp [*, errW_none, errW_some] <;> rfl), by first | exact Kd.R_nil _ _ _ _ _ | exact Kd.N_nil _ _ _ _ _ | exact Kd.V_nil _ _ _ _ _ | exact Kd.Q_nil _ _ _ _ _ | exact Kd.S_nil _ _ _ _ _, by repeat (with_reducible first | exact HB.out | apply zqad | apply zqac | apply zqae | refine zqah ?_ GE645.out)⟩

end Go.Proofs.Ytakemodmdhglnaa.PA
