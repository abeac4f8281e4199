/- Functions of the program, in plain Lean, and their walks (printed; half the indent). Conditions: none. -/
-- PRINTED by print.py (a twelfth state) out of the translation. Not trusted: Lean checks it.
import Derived.Test.YtakemodmdhglnaaPAx0
import Derived.Test.YtakemodmdhglnaaPAx1
import Derived.Test.YtakemodmdhglnaaPAx13
import Derived.Test.YtakemodmdhglnaaPAx31
import Derived.Test.YtakemodmdhglnaaPAx33
import Derived.Test.YtakemodmdhglnaaPAx34
import Derived.Test.YtakemodmdhglnaaPAx36
namespace Go.Proofs.Ytakemodmdhglnaa.PA
open Go.RowKit Go.Proofs.YtakemodmdhglnaaW.PrintWords Go.Proofs.YtakemodmdhglnaaW.PrintLast Go.Proofs.YtakemodmdhglnaaW.PrintMore
attribute [local go_sem] zqbb zqaz zqbd zqbe zqax zqay zqba zqbc   -- for this text's walks alone
set_option linter.unusedVariables false
set_option linter.unusedSimpArgs false

attribute [local go_sem high] eqA24
/-! ### stuff_Count: function 43 -/
def stuff_Count.f (l0 : List Int) : Option (Int) := (stuff_Add.f l0).bind fun t920 => (some (mx (wrap64 ((t920.length : Int) - (l0.length : Int))) 0))
set_option maxHeartbeats 8000000 in
set_option maxRecDepth 100000 in
theorem stuff_Count.calls (A0 : Option Addr) (c0 : Nat) (l0 : List Int) (r : Int) (w : World) (hr0 : Kd.C (Kd.int .i64) w A0 l0.length l0) (hc0 : l0.length ≤ c0) (h : stuff_Count.f l0 = some r) :
  Calls Try.prog 43 #[.slice A0 l0.length c0] w fun e w' => e = .returned (.int .i64 r) ∧ Below w.heap.size w w' := by
 have HR0 := Aside0.mk hr0
 have HC0 := Aside0.mk hc0
 clear hr0 hc0
 have HB := Aside0.mk (Below.refl w.heap.size w)
 have H : ((stuff_Add.f l0).bind fun t920 => (some (mx (wrap64 ((t920.length : Int) - (l0.length : Int))) 0))) = some r := h
 clear h
 replace H := Option.bind_eq_some_iff.mp H
 obtain ⟨t920, A20, H⟩ := H
 replace H : (some (mx (wrap64 ((t920.length : Int) - (l0.length : Int))) 0)) = some r := H
 have A2 := Aside0.mk A20
 clear A20
 obtain ⟨ji3, hji3⟩ : ∃ j_ : Int, (mx (wrap64 ((t920.length : Int) - (l0.length : Int))) 0) = j_ := ⟨_, rfl⟩
 replace H : (some ji3) = some r := by first | (rw [hji3] at H; exact H) | (simp only [hji3] at H ⊢; exact H)
 (try rw [hji3] at A2)
 (try (have hji3l : 0 ≤ ji3 := by (rw [← hji3]; unfold mx; (repeat' split) <;> omega)))
 (try (have hji3m : 0 ≤ ji3 := by omega))
 have hji3_ : (if (wrap64 ((t920.length : Int) - (l0.length : Int))) < 0 then 0 else (wrap64 ((t920.length : Int) - (l0.length : Int)))) = ji3 := hji3
 obtain rfl := Option.some.inj H
 go_enter Try.func43, Try.ntmps43
 go_wp2_with (first | ((with_reducible refine zqal (f := 64) rfl ?_); refine goesL_ (some 4) rfl rfl Try.func64 (by kernel_rfl) rfl #[.slice A0 l0.length c0] rfl (by (try simp only [List.map_toArray, List.map_cons, List.map_nil]); first | done | rfl | (simp only [List.length_drop, List.length_take]; rfl)) ?_; (with_reducible refine (stuff_Add.calls _ _ l0 t920 _ ?side1 ?side2 A2.out).mono ?_); (case side1 => repeat (first | exact HR0.out | (with_reducible refine Kd.C_alloc ?_ _) | (with_reducible refine Kd.C_drewN ?_ _) | (with_reducible refine Kd.C_drew ?_))); (case side2 => exact HC0.out); rintro e w4 ⟨v921, rfl, ho0, hb⟩; refine ⟨_, rfl, ?_⟩; have n0_ := Aside0.mk (Kd.R_lower ho0 (zqaj (by repeat (with_reducible first | exact HB.out | apply zqad | apply zqac | apply zqae)))); have n1_ := Aside0.mk (zqak (by repeat (with_reducible first | exact HB.out | apply zqad | apply zqac | apply zqae)) hb); clear HB; have HO922 := n0_; have HB := n1_; clear n0_ n1_; (try clear hb); (try clear hb2); (try clear hk); (try clear hi); (try clear ho0); obtain ⟨Ao5, co5, eo5⟩ := Kd.R_slice HO922.out; subst eo5))
 go_ret
 exact ⟨by first | rfl | (simp [errW_none, errW_some] <;> rfl) | (simp only [← hji3]; first | rfl | (simp [errW_none, errW_some] <;> rfl)) | (simp [*, errW_none, errW_some] <;> rfl), by repeat (with_reducible first | exact HB.out | apply zqad | apply zqac | apply zqae)⟩

/-! ### codec_Length: function 38 -/
def codec_Length.f (k : Nat) (a0_0 : Int) (a0_1 : Bool) (a0_2 : Bool) (a0_3 : Int) (a0_4 : Int) (a0_5 : Int) (a0_6 : Int) (a0_7 : Int) (a0_8 : Int) (a0_9 : Int) (a0_10 : Int) (a0_11 : Int) : Option (Int × Int) := (field_All.f k a0_0 a0_1 a0_2 a0_3 a0_4 a0_5 a0_6 a0_7 a0_8 a0_9 a0_10 a0_11).bind fun bt924 => (if bt924.2 = 0 then (if 0 ≤ (wrap64 ((bt924.1.length : Int) - 10)) then (if (wrap64 ((bt924.1.length : Int) - 10)) ≤ (bt924.1.length : Int) then ((stuff_Count.f (bt924.1.take ((wrap64 ((bt924.1.length : Int) - 10)) : Int).toNat)).bind fun t932 => (some (wrap64 ((bt924.1.length : Int) + t932), 0))) else (none)) else (none)) else (some (0, bt924.2)))
theorem codec_Length.mono : ∀ a0 a1 a2 a3 a4 a5 a6 a7 a8 a9 a10 a11 k, LeO (codec_Length.f k a0 a1 a2 a3 a4 a5 a6 a7 a8 a9 a10 a11) (codec_Length.f (k + 1) a0 a1 a2 a3 a4 a5 a6 a7 a8 a9 a10 a11) := by
 intro a0 a1 a2 a3 a4 a5 a6 a7 a8 a9 a10 a11 k
 unfold codec_Length.f
 repeat' first
   | (with_reducible exact field_All.mono _ _ _ _ _ _ _ _ _ _ _ _ _)
   | (with_reducible exact LeO.refl _)
   | (with_reducible exact LeO.none _)
   | (with_reducible refine LeO.ite ?_ ?_)
   | (with_reducible refine LeO.bind ?_ (fun _ => ?_))
   | exact field_All.mono _ _ _ _ _ _ _ _ _ _ _ _ _
   | exact LeO.none _
   | refine LeO.ite ?_ ?_
   | refine LeO.bind ?_ (fun _ => ?_)
set_option maxHeartbeats 8000000 in
set_option maxRecDepth 100000 in
theorem codec_Length.calls (k : Nat) (a0_0 : Int) (a0_1 : Bool) (a0_2 : Bool) (a0_3 : Int) (a0_4 : Int) (a0_5 : Int) (a0_6 : Int) (a0_7 : Int) (a0_8 : Int) (a0_9 : Int) (a0_10 : Int) (a0_11 : Int) (r1 : Int) (r2 : Int) (w : World) (h : codec_Length.f k a0_0 a0_1 a0_2 a0_3 a0_4 a0_5 a0_6 a0_7 a0_8 a0_9 a0_10 a0_11 = some (r1, r2)) :
  Calls Try.prog 38 #[.agg #[.int .i64 a0_0, .bool a0_1, .bool a0_2, .int .i64 a0_3, .int .u8 a0_4, .int .u8 a0_5, .int .u8 a0_6, .int .u8 a0_7, .int .u8 a0_8, .int .u8 a0_9, .int .u8 a0_10, .int .u8 a0_11]] w fun e w' => e = .returned (.tuple #[.int .i64 r1, .int .i64 r2]) ∧ Below w.heap.size w w' := by
 have hu24 := Try.underlying24
 have HB := Aside0.mk (Below.refl w.heap.size w)
 have H : ((field_All.f k a0_0 a0_1 a0_2 a0_3 a0_4 a0_5 a0_6 a0_7 a0_8 a0_9 a0_10 a0_11).bind fun bt924 => (if bt924.2 = 0 then (if 0 ≤ (wrap64 ((bt924.1.length : Int) - 10)) then (if (wrap64 ((bt924.1.length : Int) - 10)) ≤ (bt924.1.length : Int) then ((stuff_Count.f (bt924.1.take ((wrap64 ((bt924.1.length : Int) - 10)) : Int).toNat)).bind fun t932 => (some (wrap64 ((bt924.1.length : Int) + t932), 0))) else (none)) else (none)) else (some (0, bt924.2)))) = some (r1, r2) := h
 clear h
 replace H := Option.bind_eq_some_iff.mp H
 obtain ⟨⟨t924, t927⟩, A20, H⟩ := H
 replace H : (if t927 = 0 then (if 0 ≤ (wrap64 ((t924.length : Int) - 10)) then (if (wrap64 ((t924.length : Int) - 10)) ≤ (t924.length : Int) then ((stuff_Count.f (t924.take ((wrap64 ((t924.length : Int) - 10)) : Int).toNat)).bind fun t932 => (some (wrap64 ((t924.length : Int) + t932), 0))) else (none)) else (none)) else (some (0, t927))) = some (r1, r2) := H
 have A2 := Aside0.mk A20
 clear A20
 by_cases c3 : t927 = 0
 ·
  rw [if_pos c3] at H
  have c3b0 : (t927 == 0) = true := beq_iff_eq.mpr c3
  have c3b1 : (t927 != 0) = false := bne_eq_false_iff_eq.mpr c3
  clear c3
  obtain ⟨ji4, hji4⟩ : ∃ j_ : Int, (wrap64 ((t924.length : Int) - 10)) = j_ := ⟨_, rfl⟩
  replace H : (if 0 ≤ (ji4) then (if (ji4) ≤ (t924.length : Int) then ((stuff_Count.f (t924.take ((ji4) : Int).toNat)).bind fun t932 => (some (wrap64 ((t924.length : Int) + t932), 0))) else (none)) else (none)) = some (r1, r2) := by first | (rw [hji4] at H; exact H) | (simp only [hji4] at H ⊢; exact H)
  (try rw [hji4] at A2)
  have hji4w : (IntKind.i64.wrap ((t924.length : Int) - 10)) = ji4 := (i64_w _).trans hji4
  by_cases c5 : 0 ≤ (ji4)
  ·
   rw [if_pos c5] at H
   have c5b0 := eq_true c5
   have c5b1 : decide (0 ≤ (ji4)) = true := decide_eq_true c5
   clear c5
   by_cases c6 : (ji4) ≤ (t924.length : Int)
   ·
    rw [if_pos c6] at H
    have c6b0 := eq_true c6
    have c6b1 : decide ((ji4) ≤ (t924.length : Int)) = true := decide_eq_true c6
    clear c6
    obtain ⟨y928, hy928⟩ : ∃ y_ : List Int, y_ = (t924.take ((ji4) : Int).toNat) := ⟨_, rfl⟩
    replace H : ((stuff_Count.f y928).bind fun t932 => (some (wrap64 ((t924.length : Int) + t932), 0))) = some (r1, r2) := by first | (rw [hy928]; with_reducible exact H) | (have H2_ := (Option.bind_some _ _).symm.trans H; rw [hy928]; with_reducible exact H2_) | (have H2_ := (Option.bind_some _ _).symm.trans H; with_reducible exact H2_) | with_reducible exact H | (rw [hy928]; exact H) | exact H
    have Ny928 := Aside0.mk hy928
    clear hy928
    replace H := Option.bind_eq_some_iff.mp H
    obtain ⟨t932, A70, H⟩ := H
    replace H : (some (wrap64 ((t924.length : Int) + t932), 0)) = some (r1, r2) := H
    have A7 := Aside0.mk A70
    clear A70
    simp only [Option.some.injEq, Prod.mk.injEq] at H
    obtain ⟨rfl, rfl⟩ := H
    go_enter Try.func38, Try.ntmps38
    go_wp2_with (first | ((with_reducible refine zqar (N := 1) rfl ?_); refine zqav ?hg (N := 1) ?hd (cs := #[.int .i64 a0_0, .bool a0_1, .bool a0_2, .int .i64 a0_3, .int .u8 a0_4, .int .u8 a0_5, .int .u8 a0_6, .int .u8 a0_7, .int .u8 a0_8, .int .u8 a0_9, .int .u8 a0_10, .int .u8 a0_11]) (t := 24) ?hr ?_; (case hd => rfl); (case hg => rfl); (case hr => first | (go_simp; done) | (go_simp; rfl)); intro gb923 hg w8 hbox hb; have n0_ := Aside0.mk (zqak (by repeat (with_reducible first | exact HB.out | apply zqad | apply zqac | apply zqae)) hb); have n1_ := Aside0.mk (hbox); have n2_ := Aside0.mk ((by rw [hg]; exact (zqaj (by repeat (with_reducible first | exact HB.out | apply zqad | apply zqac | apply zqae))) : w.heap.size ≤ gb923)); have n3_ := Aside0.mk ((by rw [hg]; exact (zqaj (by repeat (with_reducible first | exact HB.out | apply zqad | apply zqac | apply zqae))) : w.heap.size ≤ gb923)); clear HB; have HB := n0_; have BK923 := n1_; have GW923 := n2_; have GE923 := n3_; clear n0_ n1_ n2_ n3_; clear hb hbox hg; have hcz9_0 : w8.cell? ⟨gb923, 0, none⟩ = some (.int .i64 a0_0) := (zqab BK923.out 0).trans rfl; have hcz9_1 : w8.cell? ⟨gb923, 1, none⟩ = some (.bool a0_1) := (zqab BK923.out 1).trans rfl; have hcz9_2 : w8.cell? ⟨gb923, 2, none⟩ = some (.bool a0_2) := (zqab BK923.out 2).trans rfl; have hcz9_3 : w8.cell? ⟨gb923, 3, none⟩ = some (.int .i64 a0_3) := (zqab BK923.out 3).trans rfl; have hcz9_4 : w8.cell? ⟨gb923, 4, none⟩ = some (.int .u8 a0_4) := (zqab BK923.out 4).trans rfl; have hcz9_5 : w8.cell? ⟨gb923, 5, none⟩ = some (.int .u8 a0_5) := (zqab BK923.out 5).trans rfl; have hcz9_6 : w8.cell? ⟨gb923, 6, none⟩ = some (.int .u8 a0_6) := (zqab BK923.out 6).trans rfl; have hcz9_7 : w8.cell? ⟨gb923, 7, none⟩ = some (.int .u8 a0_7) := (zqab BK923.out 7).trans rfl; have hcz9_8 : w8.cell? ⟨gb923, 8, none⟩ = some (.int .u8 a0_8) := (zqab BK923.out 8).trans rfl; have hcz9_9 : w8.cell? ⟨gb923, 9, none⟩ = some (.int .u8 a0_9) := (zqab BK923.out 9).trans rfl; have hcz9_10 : w8.cell? ⟨gb923, 10, none⟩ = some (.int .u8 a0_10) := (zqab BK923.out 10).trans rfl; have hcz9_11 : w8.cell? ⟨gb923, 11, none⟩ = some (.int .u8 a0_11) := (zqab BK923.out 11).trans rfl; have hfz9_0 := zqaa BK923.out 0; have hfz9_1 := zqaa BK923.out 1; have hfz9_2 := zqaa BK923.out 2; have hfz9_3 := zqaa BK923.out 3; have hfz9_4 := zqaa BK923.out 4; have hfz9_5 := zqaa BK923.out 5; have hfz9_6 := zqaa BK923.out 6; have hfz9_7 := zqaa BK923.out 7; have hfz9_8 := zqaa BK923.out 8; have hfz9_9 := zqaa BK923.out 9; have hfz9_10 := zqaa BK923.out 10; have hfz9_11 := zqaa BK923.out 11) | ((with_reducible refine zqal (f := 17) rfl ?_); refine goesL_ (some 8) rfl rfl Try.func17 (by kernel_rfl) rfl #[.agg #[.int .i64 a0_0, .bool a0_1, .bool a0_2, .int .i64 a0_3, .int .u8 a0_4, .int .u8 a0_5, .int .u8 a0_6, .int .u8 a0_7, .int .u8 a0_8, .int .u8 a0_9, .int .u8 a0_10, .int .u8 a0_11]] rfl (by (try simp only [List.map_toArray, List.map_cons, List.map_nil]); first | done | rfl | (simp only [List.length_drop, List.length_take]; rfl)) ?_; (with_reducible refine (field_All.calls k a0_0 a0_1 a0_2 a0_3 a0_4 a0_5 a0_6 a0_7 a0_8 a0_9 a0_10 a0_11 t924 t927 _ A2.out).mono ?_); rintro e w10 ⟨v925, rfl, ho0, hb⟩; refine ⟨_, rfl, ?_⟩; have n0_ := Aside0.mk (Kd.R_lower ho0 (zqaj (by repeat (with_reducible first | exact HB.out | apply zqad | apply zqac | apply zqae | refine zqah ?_ GE923.out)))); have n1_ := Aside0.mk (zqam (g := gb923) (o := .cells #[.int .i64 a0_0, .bool a0_1, .bool a0_2, .int .i64 a0_3, .int .u8 a0_4, .int .u8 a0_5, .int .u8 a0_6, .int .u8 a0_7, .int .u8 a0_8, .int .u8 a0_9, .int .u8 a0_10, .int .u8 a0_11] 24 (0, 0)) (by (with_reducible repeat (first | refine zqag ?_ _ | refine zqai ?_ | refine zqaf ?_ _)); exact BK923.out) hb); have n2_ := Aside0.mk (zqak (by repeat (with_reducible first | exact HB.out | apply zqad | apply zqac | apply zqae | refine zqah ?_ GE923.out)) hb); clear BK923; clear HB; have HO926 := n0_; have BK923 := n1_; have HB := n2_; clear n0_ n1_ n2_; (try clear hb); (try clear hb2); (try clear hk); (try clear hi); (try clear ho0); obtain ⟨Ao11, co11, eo11⟩ := Kd.R_slice HO926.out; subst eo11; have q12 : ((ji4) : Int) ≤ ((t924.length : Int) : Int) := of_decide_eq_true (by first | (with_reducible assumption) | assumption); obtain ⟨i012, hi012, _, hsz12, _⟩ := info_parts info3; have hroom12 : t924.length ≤ co11 := (Kd.R_reads' HO926.out).2.1; have hC12 : Kd.C (Kd.int .i64) _ Ao11 t924.length t924 := (Kd.R_reads' HO926.out).2.2; have hcut12 := cut_to (P := Try.prog) 25 3 .i64 Try.underlying25 hi012 Ao11 t924.length co11 (ji4) (of_decide_eq_true (by first | (with_reducible assumption) | assumption)) q12 hroom12; have hr12 := Kd.C_take (m := ((ji4) : Int).toNat) hC12 (by omega); have hy12 : y928.length = ((ji4) : Int).toNat := (by rw [Ny928.out, List.length_take]; omega); rw [← Ny928.out] at hr12; rw [← hy12] at hcut12; have HR931 := Aside0.mk hr12; have HC931 := Aside0.mk (show y928.length ≤ co11 from by omega); clear hr12 hC12 hroom12 hi012 hsz12; have KY12 := Aside0.mk hy12; clear hy12; have KL12 := Aside0.mk (show ((ji4) : Int).toNat ≤ t924.length from by omega); replace q12 := eq_true q12) | ((with_reducible refine zqal (f := 43) rfl ?_); refine goesL_ (some 21) rfl rfl Try.func43 (by kernel_rfl) rfl #[.slice Ao11 y928.length co11] rfl (by (try simp only [List.map_toArray, List.map_cons, List.map_nil]); first | done | rfl | (simp only [List.length_drop, List.length_take]; rfl)) ?_; (with_reducible refine (stuff_Count.calls _ _ y928 t932 _ ?side1 ?side2 A7.out).mono ?_); (case side1 => repeat (first | exact (by repeat (first | (with_reducible exact HR931.out) | (with_reducible refine Kd.C_alloc ?_ _) | (with_reducible refine Kd.C_drewN ?_ _) | (with_reducible refine Kd.C_drew ?_) | exact HR931.out)) | (with_reducible refine Kd.C_alloc ?_ _) | (with_reducible refine Kd.C_drewN ?_ _) | (with_reducible refine Kd.C_drew ?_))); (case side2 => exact HC931.out); rintro e w13 ⟨rfl, hb⟩; refine ⟨_, rfl, ?_⟩; have n0_ := Aside0.mk (Kd.R_below (by (with_reducible repeat (first | apply Kd.R_alloc | apply Kd.R_drewN | apply Kd.R_drew)); exact HO926.out) hb); have n1_ := Aside0.mk (zqam (g := gb923) (o := .cells #[.int .i64 a0_0, .bool a0_1, .bool a0_2, .int .i64 a0_3, .int .u8 a0_4, .int .u8 a0_5, .int .u8 a0_6, .int .u8 a0_7, .int .u8 a0_8, .int .u8 a0_9, .int .u8 a0_10, .int .u8 a0_11] 24 (0, 0)) (by (with_reducible repeat (first | refine zqag ?_ _ | refine zqai ?_ | refine zqaf ?_ _)); exact BK923.out) hb); have n2_ := Aside0.mk (Kd.C_below (by repeat (first | (with_reducible exact HR931.out) | (with_reducible refine Kd.C_alloc ?_ _) | (with_reducible refine Kd.C_drewN ?_ _) | (with_reducible refine Kd.C_drew ?_) | exact HR931.out)) hb); have n3_ := Aside0.mk (zqak (by repeat (with_reducible first | exact HB.out | apply zqad | apply zqac | apply zqae | refine zqah ?_ GE923.out)) hb); clear HO926; clear BK923; clear HR931; clear HB; have HO926 := n0_; have BK923 := n1_; have HR931 := n2_; have HB := n3_; clear n0_ n1_ n2_ n3_; (try clear hb); (try clear hb2); (try clear hk); (try clear hi)))
    go_ret2
    exact ⟨by first | rfl | (simp [errW_none, errW_some] <;> rfl) | (simp only [← hji4]; first | rfl | (simp [errW_none, errW_some] <;> rfl)) | (simp [*, errW_none, errW_some] <;> rfl), by repeat (with_reducible first | exact HB.out | apply zqad | apply zqac | apply zqae | refine zqah ?_ GE923.out)⟩
   ·
    rw [if_neg c6] at H
    exact absurd H (by simp)
  ·
   rw [if_neg c5] at H
   exact absurd H (by simp)
 ·
  rw [if_neg c3] at H
  have c3b0 : (t927 == 0) = false := beq_eq_false_iff_ne.mpr c3
  have c3b1 : (t927 != 0) = true := bne_iff_ne.mpr c3
  simp only [Option.some.injEq, Prod.mk.injEq] at H
  obtain ⟨rfl, rfl⟩ := H
  go_enter Try.func38, Try.ntmps38
  go_wp2_with (first | ((with_reducible refine zqar (N := 1) rfl ?_); refine zqav ?hg (N := 1) ?hd (cs := #[.int .i64 a0_0, .bool a0_1, .bool a0_2, .int .i64 a0_3, .int .u8 a0_4, .int .u8 a0_5, .int .u8 a0_6, .int .u8 a0_7, .int .u8 a0_8, .int .u8 a0_9, .int .u8 a0_10, .int .u8 a0_11]) (t := 24) ?hr ?_; (case hd => rfl); (case hg => rfl); (case hr => first | (go_simp; done) | (go_simp; rfl)); intro gb923 hg w14 hbox hb; have n0_ := Aside0.mk (zqak (by repeat (with_reducible first | exact HB.out | apply zqad | apply zqac | apply zqae)) hb); have n1_ := Aside0.mk (hbox); have n2_ := Aside0.mk ((by rw [hg]; exact (zqaj (by repeat (with_reducible first | exact HB.out | apply zqad | apply zqac | apply zqae))) : w.heap.size ≤ gb923)); have n3_ := Aside0.mk ((by rw [hg]; exact (zqaj (by repeat (with_reducible first | exact HB.out | apply zqad | apply zqac | apply zqae))) : w.heap.size ≤ gb923)); clear HB; have HB := n0_; have BK923 := n1_; have GW923 := n2_; have GE923 := n3_; clear n0_ n1_ n2_ n3_; clear hb hbox hg; have hcz15_0 : w14.cell? ⟨gb923, 0, none⟩ = some (.int .i64 a0_0) := (zqab BK923.out 0).trans rfl; have hcz15_1 : w14.cell? ⟨gb923, 1, none⟩ = some (.bool a0_1) := (zqab BK923.out 1).trans rfl; have hcz15_2 : w14.cell? ⟨gb923, 2, none⟩ = some (.bool a0_2) := (zqab BK923.out 2).trans rfl; have hcz15_3 : w14.cell? ⟨gb923, 3, none⟩ = some (.int .i64 a0_3) := (zqab BK923.out 3).trans rfl; have hcz15_4 : w14.cell? ⟨gb923, 4, none⟩ = some (.int .u8 a0_4) := (zqab BK923.out 4).trans rfl; have hcz15_5 : w14.cell? ⟨gb923, 5, none⟩ = some (.int .u8 a0_5) := (zqab BK923.out 5).trans rfl; have hcz15_6 : w14.cell? ⟨gb923, 6, none⟩ = some (.int .u8 a0_6) := (zqab BK923.out 6).trans rfl; have hcz15_7 : w14.cell? ⟨gb923, 7, none⟩ = some (.int .u8 a0_7) := (zqab BK923.out 7).trans rfl; have hcz15_8 : w14.cell? ⟨gb923, 8, none⟩ = some (.int .u8 a0_8) := (zqab BK923.out 8).trans rfl; have hcz15_9 : w14.cell? ⟨gb923, 9, none⟩ = some (.int .u8 a0_9) := (zqab BK923.out 9).trans rfl; have hcz15_10 : w14.cell? ⟨gb923, 10, none⟩ = some (.int .u8 a0_10) := (zqab BK923.out 10).trans rfl; have hcz15_11 : w14.cell? ⟨gb923, 11, none⟩ = some (.int .u8 a0_11) := (zqab BK923.out 11).trans rfl; have hfz15_0 := zqaa BK923.out 0; have hfz15_1 := zqaa BK923.out 1; have hfz15_2 := zqaa BK923.out 2; have hfz15_3 := zqaa BK923.out 3; have hfz15_4 := zqaa BK923.out 4; have hfz15_5 := zqaa BK923.out 5; have hfz15_6 := zqaa BK923.out 6; have hfz15_7 := zqaa BK923.out 7; have hfz15_8 := zqaa BK923.out 8; have hfz15_9 := zqaa BK923.out 9; have hfz15_10 := zqaa BK923.out 10; have hfz15_11 := zqaa BK923.out 11) | ((with_reducible refine zqal (f := 17) rfl ?_); refine goesL_ (some 8) rfl rfl Try.func17 (by kernel_rfl) rfl #[.agg #[.int .i64 a0_0, .bool a0_1, .bool a0_2, .int .i64 a0_3, .int .u8 a0_4, .int .u8 a0_5, .int .u8 a0_6, .int .u8 a0_7, .int .u8 a0_8, .int .u8 a0_9, .int .u8 a0_10, .int .u8 a0_11]] rfl (by (try simp only [List.map_toArray, List.map_cons, List.map_nil]); first | done | rfl | (simp only [List.length_drop, List.length_take]; rfl)) ?_; (with_reducible refine (field_All.calls k a0_0 a0_1 a0_2 a0_3 a0_4 a0_5 a0_6 a0_7 a0_8 a0_9 a0_10 a0_11 t924 t927 _ A2.out).mono ?_); rintro e w16 ⟨v925, rfl, ho0, hb⟩; refine ⟨_, rfl, ?_⟩; have n0_ := Aside0.mk (Kd.R_lower ho0 (zqaj (by repeat (with_reducible first | exact HB.out | apply zqad | apply zqac | apply zqae | refine zqah ?_ GE923.out)))); have n1_ := Aside0.mk (zqam (g := gb923) (o := .cells #[.int .i64 a0_0, .bool a0_1, .bool a0_2, .int .i64 a0_3, .int .u8 a0_4, .int .u8 a0_5, .int .u8 a0_6, .int .u8 a0_7, .int .u8 a0_8, .int .u8 a0_9, .int .u8 a0_10, .int .u8 a0_11] 24 (0, 0)) (by (with_reducible repeat (first | refine zqag ?_ _ | refine zqai ?_ | refine zqaf ?_ _)); exact BK923.out) hb); have n2_ := Aside0.mk (zqak (by repeat (with_reducible first | exact HB.out | apply zqad | apply zqac | apply zqae | refine zqah ?_ GE923.out)) hb); clear BK923; clear HB; have HO926 := n0_; have BK923 := n1_; have HB := n2_; clear n0_ n1_ n2_; (try clear hb); (try clear hb2); (try clear hk); (try clear hi); (try clear ho0)))
  go_ret2
  exact ⟨by first | rfl | (simp [errW_none, errW_some] <;> rfl) | (simp [*, errW_none, errW_some] <;> rfl), by repeat (with_reducible first | exact HB.out | apply zqad | apply zqac | apply zqae | refine zqah ?_ GE923.out)⟩

/-! ### magnetoref01_Check: function 83 -/
def magnetoref01_Check.l0 : Nat → List Int → Int → Option (Int)
 | 0, _, _ => none
 | k + 1, x0, x3 => if x3 < (x0.length : Int) then (if 0 ≤ x3 then (if (rd x0 x3) = 0 then (magnetoref01_Check.l0 k x0 (wrap64 (x3 + 1))) else (if (rd x0 x3) = 1 then (magnetoref01_Check.l0 k x0 (wrap64 (x3 + 1))) else (some x3))) else (none)) else (some (-1))
def magnetoref01_Check.f (k : Nat) (l0 : List Int) : Option (Int) := magnetoref01_Check.l0 k l0 0
theorem magnetoref01_Check.mono_l : ∀ k, (∀ y0 y1, LeO (magnetoref01_Check.l0 k y0 y1) (magnetoref01_Check.l0 (k + 1) y0 y1))
 | 0 => fun _ _ r h => by simp [magnetoref01_Check.l0] at h
 | k + 1 => by
  have ih0 := magnetoref01_Check.mono_l k
  ·
   intro y0 y1
   unfold magnetoref01_Check.l0
   repeat' first
   | (with_reducible exact ih0 _ _)
   | (with_reducible exact LeO.refl _)
   | (with_reducible exact LeO.none _)
   | (with_reducible refine LeO.ite ?_ ?_)
   | (with_reducible refine LeO.bind ?_ (fun _ => ?_))
   | exact ih0 _ _
   | exact LeO.none _
   | refine LeO.ite ?_ ?_
   | refine LeO.bind ?_ (fun _ => ?_)
theorem magnetoref01_Check.mono : ∀ a0 k, LeO (magnetoref01_Check.f k a0) (magnetoref01_Check.f (k + 1) a0) := by
 intro a0 k
 have ih0 := magnetoref01_Check.mono_l k
 unfold magnetoref01_Check.f
 repeat' first
   | (with_reducible exact ih0 _ _)
   | (with_reducible exact LeO.refl _)
   | (with_reducible exact LeO.none _)
   | (with_reducible refine LeO.ite ?_ ?_)
   | (with_reducible refine LeO.bind ?_ (fun _ => ?_))
   | exact ih0 _ _
   | exact LeO.none _
   | refine LeO.ite ?_ ?_
   | refine LeO.bind ?_ (fun _ => ?_)
set_option maxHeartbeats 8000000 in
set_option maxRecDepth 100000 in
theorem magnetoref01_Check.calls (k : Nat) (A0 : Option Addr) (c0 : Nat) (l0 : List Int) (r : Int) (w : World) (hr0 : Kd.C (Kd.int .i64) w A0 l0.length l0) (hc0 : l0.length ≤ c0) (h : magnetoref01_Check.f k l0 = some r) :
  Calls Try.prog 83 #[.slice A0 l0.length c0] w fun e w' => e = .returned (.int .i64 r) ∧ Drawn0 w w' := by
 have HR0 := Aside0.mk hr0
 have HC0 := Aside0.mk hc0
 clear hr0 hc0
 have H : (magnetoref01_Check.l0 k l0 0) = some r := h
 clear h
 have H' := Aside0.mk H
 clear H
 go_enter Try.func83, Try.ntmps83
 go_wp2
 go_loopg [3] k (fun kq v3 w' => ∃ (x3_1 : Int), v3 = .int .i64 x3_1 ∧ Aside0 (magnetoref01_Check.l0 kq l0 x3_1 = some r) ∧ Aside0 (kq ≤ k) ∧ Drawn0 w w')
 case atStart => exact ⟨(0), (by first | rfl | (simp; done) | (simp [*]; done)), H', ⟨Nat.le_refl _⟩, by repeat (first | exact Drawn0.refl _ | apply Drawn0.step)⟩
 case round =>
  clear H'
  obtain ⟨x3_1, rfl, HA, HK1, ⟨m1, rfl⟩⟩ := hrel
  cases gk with
  | zero => exact absurd HA.out (by simp [magnetoref01_Check.l0])
  | succ k1 =>
   have H := HA.out
   clear HA
   simp only [magnetoref01_Check.l0] at H
   by_cases c2 : x3_1 < (l0.length : Int)
   ·
    rw [if_pos c2] at H
    have c2b0 : decide (x3_1 < (l0.length : Int)) = true := decide_eq_true c2
    clear c2
    by_cases c3 : 0 ≤ x3_1
    ·
     rw [if_pos c3] at H
     have c3b0 : decide (0 ≤ x3_1) = true := decide_eq_true c3
     clear c3
     by_cases c4 : (rd l0 x3_1) = 0
     ·
      rw [if_pos c4] at H
      have c4b0 : ((rd l0 x3_1) == 0) = true := beq_iff_eq.mpr c4
      have c4b1 : ((rd l0 x3_1) != 0) = false := bne_eq_false_iff_eq.mpr c4
      clear c4
      have H' := Aside0.mk H
      clear H
      have p933 : 0 ≤ (x3_1 : Int) := of_decide_eq_true (by first | (with_reducible assumption) | assumption)
      have q933 : x3_1 < (l0.length : Int) := of_decide_eq_true (by first | (with_reducible assumption) | assumption)
      obtain ⟨ad933, e933, hx933_0⟩ := Kd.at_int HR0.out x3_1 p933 q933
      cases e933
      replace p933 := eq_true p933
      replace q933 := eq_true q933
      go_wp2
      go_roundg k1
      case measure => have := HK1.out; omega
      case rel => exact ⟨(wrap64 (x3_1 + 1)), (by first | rfl | (simp; done) | (simp [*]; done)), H', ⟨by have := HK1.out; omega⟩, by repeat (first | exact Drawn0.refl _ | apply Drawn0.step)⟩
     ·
      rw [if_neg c4] at H
      have c4b0 : ((rd l0 x3_1) == 0) = false := beq_eq_false_iff_ne.mpr c4
      have c4b1 : ((rd l0 x3_1) != 0) = true := bne_iff_ne.mpr c4
      by_cases c5 : (rd l0 x3_1) = 1
      ·
       rw [if_pos c5] at H
       have c5b0 : ((rd l0 x3_1) == 1) = true := beq_iff_eq.mpr c5
       have c5b1 : ((rd l0 x3_1) != 1) = false := bne_eq_false_iff_eq.mpr c5
       clear c5
       have H' := Aside0.mk H
       clear H
       have p933 : 0 ≤ (x3_1 : Int) := of_decide_eq_true (by first | (with_reducible assumption) | assumption)
       have q933 : x3_1 < (l0.length : Int) := of_decide_eq_true (by first | (with_reducible assumption) | assumption)
       obtain ⟨ad933, e933, hx933_0⟩ := Kd.at_int HR0.out x3_1 p933 q933
       cases e933
       replace p933 := eq_true p933
       replace q933 := eq_true q933
       have p934 : 0 ≤ (x3_1 : Int) := of_decide_eq_true (by first | (with_reducible assumption) | assumption)
       have q934 : x3_1 < (l0.length : Int) := of_decide_eq_true (by first | (with_reducible assumption) | assumption)
       obtain ⟨ad934, e934, hx934_0⟩ := Kd.at_int HR0.out x3_1 p934 q934
       obtain rfl : ad933 = ad934 := (by injection e934)
       replace p934 := eq_true p934
       replace q934 := eq_true q934
       go_wp2
       go_roundg k1
       case measure => have := HK1.out; omega
       case rel => exact ⟨(wrap64 (x3_1 + 1)), (by first | rfl | (simp; done) | (simp [*]; done)), H', ⟨by have := HK1.out; omega⟩, by repeat (first | exact Drawn0.refl _ | apply Drawn0.step)⟩
      ·
       rw [if_neg c5] at H
       have c5b0 : ((rd l0 x3_1) == 1) = false := beq_eq_false_iff_ne.mpr c5
       have c5b1 : ((rd l0 x3_1) != 1) = true := bne_iff_ne.mpr c5
       obtain rfl := Option.some.inj H
       have p933 : 0 ≤ (x3_1 : Int) := of_decide_eq_true (by first | (with_reducible assumption) | assumption)
       have q933 : x3_1 < (l0.length : Int) := of_decide_eq_true (by first | (with_reducible assumption) | assumption)
       obtain ⟨ad933, e933, hx933_0⟩ := Kd.at_int HR0.out x3_1 p933 q933
       cases e933
       replace p933 := eq_true p933
       replace q933 := eq_true q933
       have p934 : 0 ≤ (x3_1 : Int) := of_decide_eq_true (by first | (with_reducible assumption) | assumption)
       have q934 : x3_1 < (l0.length : Int) := of_decide_eq_true (by first | (with_reducible assumption) | assumption)
       obtain ⟨ad934, e934, hx934_0⟩ := Kd.at_int HR0.out x3_1 p934 q934
       obtain rfl : ad933 = ad934 := (by injection e934)
       replace p934 := eq_true p934
       replace q934 := eq_true q934
       go_wp2
       go_ret
       exact ⟨by first | rfl | (simp; done) | (simp [*]; done), by repeat (first | exact Drawn0.refl _ | apply Drawn0.step)⟩
    ·
     rw [if_neg c3] at H
     exact absurd H (by simp)
   ·
    rw [if_neg c2] at H
    have c2b0 : decide (x3_1 < (l0.length : Int)) = false := decide_eq_false c2
    clear c2
    obtain rfl := Option.some.inj H
    go_wp2
    go_ret
    exact ⟨by first | rfl | (simp; done) | (simp [*]; done), by repeat (first | exact Drawn0.refl _ | apply Drawn0.step)⟩

/-! ### magnetoref05_Five: function 84 -/
def magnetoref05_Five.l0 : Nat → List Int → Int → Int → Option (Bool)
 | 0, _, _, _ => none
 | k + 1, x0, x3, x4 => if x4 < x3 then (if 0 ≤ x4 then (if x4 < (x0.length : Int) then (if 0 ≤ (wrap64 (x3 - 5)) then (if (wrap64 (x3 - 5)) < (x0.length : Int) then (if (rd x0 x4) = (rd x0 (wrap64 (x3 - 5))) then (magnetoref05_Five.l0 k x0 x3 (wrap64 (x4 + 1))) else (some false)) else (none)) else (none)) else (none)) else (none)) else (some true)
def magnetoref05_Five.f (k : Nat) (l0 : List Int) : Option (Bool) := if (l0.length : Int) < 5 then (some false) else (magnetoref05_Five.l0 k l0 (l0.length : Int) (wrap64 ((l0.length : Int) - 4)))
theorem magnetoref05_Five.mono_l : ∀ k, (∀ y0 y1 y2, LeO (magnetoref05_Five.l0 k y0 y1 y2) (magnetoref05_Five.l0 (k + 1) y0 y1 y2))
 | 0 => fun _ _ _ r h => by simp [magnetoref05_Five.l0] at h
 | k + 1 => by
  have ih0 := magnetoref05_Five.mono_l k
  ·
   intro y0 y1 y2
   unfold magnetoref05_Five.l0
   repeat' first
   | (with_reducible exact ih0 _ _ _)
   | (with_reducible exact LeO.refl _)
   | (with_reducible exact LeO.none _)
   | (with_reducible refine LeO.ite ?_ ?_)
   | (with_reducible refine LeO.bind ?_ (fun _ => ?_))
   | exact ih0 _ _ _
   | exact LeO.none _
   | refine LeO.ite ?_ ?_
   | refine LeO.bind ?_ (fun _ => ?_)
theorem magnetoref05_Five.mono : ∀ a0 k, LeO (magnetoref05_Five.f k a0) (magnetoref05_Five.f (k + 1) a0) := by
 intro a0 k
 have ih0 := magnetoref05_Five.mono_l k
 unfold magnetoref05_Five.f
 repeat' first
   | (with_reducible exact ih0 _ _ _)
   | (with_reducible exact LeO.refl _)
   | (with_reducible exact LeO.none _)
   | (with_reducible refine LeO.ite ?_ ?_)
   | (with_reducible refine LeO.bind ?_ (fun _ => ?_))
   | exact ih0 _ _ _
   | exact LeO.none _
   | refine LeO.ite ?_ ?_
   | refine LeO.bind ?_ (fun _ => ?_)
set_option maxHeartbeats 8000000 in
set_option maxRecDepth 100000 in
theorem magnetoref05_Five.calls (k : Nat) (A0 : Option Addr) (c0 : Nat) (l0 : List Int) (r : Bool) (w : World) (hr0 : Kd.C (Kd.int .i64) w A0 l0.length l0) (hc0 : l0.length ≤ c0) (h : magnetoref05_Five.f k l0 = some r) :
  Calls Try.prog 84 #[.slice A0 l0.length c0] w fun e w' => e = .returned (.bool r) ∧ Drawn0 w w' := by
 have HR0 := Aside0.mk hr0
 have HC0 := Aside0.mk hc0
 clear hr0 hc0
 have H : (if (l0.length : Int) < 5 then (some false) else (magnetoref05_Five.l0 k l0 (l0.length : Int) (wrap64 ((l0.length : Int) - 4)))) = some r := h
 clear h
 by_cases c2 : (l0.length : Int) < 5
 ·
  rw [if_pos c2] at H
  have c2b0 : decide ((l0.length : Int) < 5) = true := decide_eq_true c2
  have c2b1 : decide (l0.length < 5) = true := decide_eq_true (by omega)
  clear c2
  obtain rfl := Option.some.inj H
  go_enter Try.func84, Try.ntmps84
  go_wp2
  repeat (go_quiet (fail); try go_wp2)
  go_ret
  exact ⟨by first | rfl | (simp; done) | (simp [*]; done), by repeat (first | exact Drawn0.refl _ | apply Drawn0.step)⟩
 ·
  rw [if_neg c2] at H
  have c2b0 : decide ((l0.length : Int) < 5) = false := decide_eq_false c2
  have c2b1 : decide (l0.length < 5) = false := decide_eq_false (by omega)
  clear c2
  have H' := Aside0.mk H
  clear H
  go_enter Try.func84, Try.ntmps84
  go_wp2
  repeat (go_quiet (fail); try go_wp2)
  go_loopg [4] k (fun kq v4 w' => ∃ (x4_1 : Int), v4 = .int .i64 x4_1 ∧ Aside0 (magnetoref05_Five.l0 kq l0 (l0.length : Int) x4_1 = some r) ∧ Aside0 (kq ≤ k) ∧ Drawn0 w w')
  case atStart => exact ⟨(wrap64 ((l0.length : Int) - 4)), (by first | rfl | (simp; done) | (simp [*]; done)), H', ⟨Nat.le_refl _⟩, by repeat (first | exact Drawn0.refl _ | apply Drawn0.step)⟩
  case round =>
   clear H'
   try clear c2
   try clear c2b0
   try clear c2b1
   try clear p2
   obtain ⟨x4_1, rfl, HA, HK1, ⟨m1, rfl⟩⟩ := hrel
   cases gk with
   | zero => exact absurd HA.out (by simp [magnetoref05_Five.l0])
   | succ k1 =>
    have H := HA.out
    clear HA
    simp only [magnetoref05_Five.l0] at H
    by_cases c3 : x4_1 < (l0.length : Int)
    ·
     rw [if_pos c3] at H
     have c3b0 : decide (x4_1 < (l0.length : Int)) = true := decide_eq_true c3
     clear c3
     by_cases c4 : 0 ≤ x4_1
     ·
      rw [if_pos c4] at H
      have c4b0 : decide (0 ≤ x4_1) = true := decide_eq_true c4
      clear c4
      by_cases c5 : x4_1 < (l0.length : Int)
      ·
       rw [if_pos c5] at H
       have c5b0 : decide (x4_1 < (l0.length : Int)) = true := decide_eq_true c5
       clear c5
       obtain ⟨ji6, hji6⟩ : ∃ j_ : Int, (wrap64 ((l0.length : Int) - 5)) = j_ := ⟨_, rfl⟩
       replace H : (if 0 ≤ (ji6) then (if (ji6) < (l0.length : Int) then (if (rd l0 x4_1) = (rd l0 (ji6)) then (magnetoref05_Five.l0 k1 l0 (l0.length : Int) (wrap64 (x4_1 + 1))) else (some false)) else (none)) else (none)) = some r := by first | (rw [hji6] at H; exact H) | (simp only [hji6] at H ⊢; exact H)
       have hji6w : (IntKind.i64.wrap ((l0.length : Int) - 5)) = ji6 := (i64_w _).trans hji6
       by_cases c7 : 0 ≤ (ji6)
       ·
        rw [if_pos c7] at H
        have c7b0 : decide (0 ≤ (ji6)) = true := decide_eq_true c7
        clear c7
        by_cases c8 : (ji6) < (l0.length : Int)
        ·
         rw [if_pos c8] at H
         have c8b0 : decide ((ji6) < (l0.length : Int)) = true := decide_eq_true c8
         clear c8
         by_cases c9 : (rd l0 x4_1) = (rd l0 (ji6))
         ·
          rw [if_pos c9] at H
          have c9b0 : ((rd l0 x4_1) == (rd l0 (ji6))) = true := beq_iff_eq.mpr c9
          have c9b1 : ((rd l0 x4_1) != (rd l0 (ji6))) = false := bne_eq_false_iff_eq.mpr c9
          clear c9
          have H' := Aside0.mk H
          clear H
          have p935 : 0 ≤ (x4_1 : Int) := of_decide_eq_true (by first | (with_reducible assumption) | assumption)
          have q935 : x4_1 < (l0.length : Int) := of_decide_eq_true (by first | (with_reducible assumption) | assumption)
          obtain ⟨ad935, e935, hx935_0⟩ := Kd.at_int HR0.out x4_1 p935 q935
          cases e935
          replace p935 := eq_true p935
          replace q935 := eq_true q935
          have p936 : 0 ≤ ((ji6) : Int) := of_decide_eq_true (by first | (with_reducible assumption) | assumption)
          have q936 : (ji6) < (l0.length : Int) := of_decide_eq_true (by first | (with_reducible assumption) | assumption)
          obtain ⟨ad936, e936, hx936_0⟩ := Kd.at_int HR0.out (ji6) p936 q936
          obtain rfl : ad935 = ad936 := (by injection e936)
          replace p936 := eq_true p936
          replace q936 := eq_true q936
          go_wp2
          repeat (go_quiet (fail); try go_wp2)
          go_roundg k1
          case measure => have := HK1.out; omega
          case rel => exact ⟨(wrap64 (x4_1 + 1)), (by first | rfl | (simp; done) | (simp [*]; done)), H', ⟨by have := HK1.out; omega⟩, by repeat (first | exact Drawn0.refl _ | apply Drawn0.step)⟩
         ·
          rw [if_neg c9] at H
          have c9b0 : ((rd l0 x4_1) == (rd l0 (ji6))) = false := beq_eq_false_iff_ne.mpr c9
          have c9b1 : ((rd l0 x4_1) != (rd l0 (ji6))) = true := bne_iff_ne.mpr c9
          obtain rfl := Option.some.inj H
          have p935 : 0 ≤ (x4_1 : Int) := of_decide_eq_true (by first | (with_reducible assumption) | assumption)
          have q935 : x4_1 < (l0.length : Int) := of_decide_eq_true (by first | (with_reducible assumption) | assumption)
          obtain ⟨ad935, e935, hx935_0⟩ := Kd.at_int HR0.out x4_1 p935 q935
          cases e935
          replace p935 := eq_true p935
          replace q935 := eq_true q935
          have p936 : 0 ≤ ((ji6) : Int) := of_decide_eq_true (by first | (with_reducible assumption) | assumption)
          have q936 : (ji6) < (l0.length : Int) := of_decide_eq_true (by first | (with_reducible assumption) | assumption)
          obtain ⟨ad936, e936, hx936_0⟩ := Kd.at_int HR0.out (ji6) p936 q936
          obtain rfl : ad935 = ad936 := (by injection e936)
          replace p936 := eq_true p936
          replace q936 := eq_true q936
          go_wp2
          repeat (go_quiet (fail); try go_wp2)
          go_ret
          exact ⟨by first | rfl | (simp; done) | (simp only [← hji6] <;> (first | rfl | simp)) | (simp [*]; done), by repeat (first | exact Drawn0.refl _ | apply Drawn0.step)⟩
        ·
         rw [if_neg c8] at H
         exact absurd H (by simp)
       ·
        rw [if_neg c7] at H
        exact absurd H (by simp)
      ·
       rw [if_neg c5] at H
       exact absurd H (by simp)
     ·
      rw [if_neg c4] at H
      exact absurd H (by simp)
    ·
     rw [if_neg c3] at H
     have c3b0 : decide (x4_1 < (l0.length : Int)) = false := decide_eq_false c3
     clear c3
     obtain rfl := Option.some.inj H
     go_wp2
     repeat (go_quiet (fail); try go_wp2)
     go_ret
     exact ⟨by first | rfl | (simp; done) | (simp [*]; done), by repeat (first | exact Drawn0.refl _ | apply Drawn0.step)⟩

/-! ### magnetoref05_Add: function 66 -/
def magnetoref05_Add.l0 : Nat → List Int → List Int → Int → Option (List Int)
 | 0, _, _, _ => none
 | k + 1, x0, x3, x4 => if x4 < (x0.length : Int) then (if 0 ≤ x4 then (if x3.length < 17592186044416 then ((some (x3 ++ [rd x0 x4] : List Int)).bind fun y942 => ((magnetoref05_Five.f k y942).bind fun t945 => (if t945 = true then (if y942.length < 17592186044416 then (magnetoref05_Add.l0 k x0 (y942 ++ [wrap64 (1 - (rd x0 x4))]) (wrap64 (x4 + 1))) else (none)) else (magnetoref05_Add.l0 k x0 y942 (wrap64 (x4 + 1)))))) else (none)) else (none)) else (some x3)
def magnetoref05_Add.f (k : Nat) (l0 : List Int) : Option (List Int) := (some (([] : List Int) : List Int)).bind fun y937 => ((magnetoref01_Check.f k l0).bind fun t940 => (if t940 ≥ 0 then (some y937) else (magnetoref05_Add.l0 k l0 y937 0)))
theorem magnetoref05_Add.mono_l : ∀ k, (∀ y0 y1 y2, LeO (magnetoref05_Add.l0 k y0 y1 y2) (magnetoref05_Add.l0 (k + 1) y0 y1 y2))
 | 0 => fun _ _ _ r h => by simp [magnetoref05_Add.l0] at h
 | k + 1 => by
  have ih0 := magnetoref05_Add.mono_l k
  ·
   intro y0 y1 y2
   unfold magnetoref05_Add.l0
   repeat' first
   | (with_reducible exact ih0 _ _ _)
   | (with_reducible exact magnetoref01_Check.mono _ _)
   | (with_reducible exact magnetoref05_Five.mono _ _)
   | (with_reducible exact LeO.refl _)
   | (with_reducible exact LeO.none _)
   | (with_reducible refine LeO.ite ?_ ?_)
   | (with_reducible refine LeO.bind ?_ (fun _ => ?_))
   | exact ih0 _ _ _
   | exact magnetoref01_Check.mono _ _
   | exact magnetoref05_Five.mono _ _
   | exact LeO.none _
   | refine LeO.ite ?_ ?_
   | refine LeO.bind ?_ (fun _ => ?_)
theorem magnetoref05_Add.mono : ∀ a0 k, LeO (magnetoref05_Add.f k a0) (magnetoref05_Add.f (k + 1) a0) := by
 intro a0 k
 have ih0 := magnetoref05_Add.mono_l k
 unfold magnetoref05_Add.f
 repeat' first
   | (with_reducible exact ih0 _ _ _)
   | (with_reducible exact magnetoref01_Check.mono _ _)
   | (with_reducible exact magnetoref05_Five.mono _ _)
   | (with_reducible exact LeO.refl _)
   | (with_reducible exact LeO.none _)
   | (with_reducible refine LeO.ite ?_ ?_)
   | (with_reducible refine LeO.bind ?_ (fun _ => ?_))
   | exact ih0 _ _ _
   | exact magnetoref01_Check.mono _ _
   | exact magnetoref05_Five.mono _ _
   | exact LeO.none _
   | refine LeO.ite ?_ ?_
   | refine LeO.bind ?_ (fun _ => ?_)
set_option maxHeartbeats 8000000 in
set_option maxRecDepth 100000 in
theorem magnetoref05_Add.calls (k : Nat) (A0 : Option Addr) (c0 : Nat) (l0 : List Int) (r : List Int) (w : World) (hr0 : Kd.C (Kd.int .i64) w A0 l0.length l0) (hc0 : l0.length ≤ c0) (h : magnetoref05_Add.f k l0 = some r) :
  Calls Try.prog 66 #[.slice A0 l0.length c0] w fun e w' => ∃ v0_ : Value, e = .returned (v0_) ∧ Kd.R (Kd.int .i64) 3 w' w.heap.size (fun _ => True) v0_ r ∧ Below w.heap.size w w' := by
 have HR0 := Aside0.mk hr0
 have HC0 := Aside0.mk hc0
 clear hr0 hc0
 have HB := Aside0.mk (Below.refl w.heap.size w)
 have H : ((some (([] : List Int) : List Int)).bind fun y937 => ((magnetoref01_Check.f k l0).bind fun t940 => (if t940 ≥ 0 then (some y937) else (magnetoref05_Add.l0 k l0 y937 0)))) = some r := h
 clear h
 obtain ⟨y937, hy937⟩ : ∃ y_ : List Int, y_ = (([] : List Int)) := ⟨_, rfl⟩
 replace H : ((magnetoref01_Check.f k l0).bind fun t940 => (if t940 ≥ 0 then (some y937) else (magnetoref05_Add.l0 k l0 y937 0))) = some r := by first | (rw [hy937]; with_reducible exact H) | (have H2_ := (Option.bind_some _ _).symm.trans H; rw [hy937]; with_reducible exact H2_) | (have H2_ := (Option.bind_some _ _).symm.trans H; with_reducible exact H2_) | with_reducible exact H | (rw [hy937]; exact H) | exact H
 have Ny937 := Aside0.mk hy937
 clear hy937
 replace H := Option.bind_eq_some_iff.mp H
 obtain ⟨t940, A20, H⟩ := H
 replace H : (if t940 ≥ 0 then (some y937) else (magnetoref05_Add.l0 k l0 y937 0)) = some r := H
 have A2 := Aside0.mk A20
 clear A20
 by_cases c3 : t940 ≥ 0
 ·
  rw [if_pos c3] at H
  have c3b0 : decide (0 ≤ t940) = true := decide_eq_true c3
  clear c3
  obtain rfl := Option.some.inj H
  go_enter Try.func66, Try.ntmps66
  go_wp2_with (first | ((with_reducible refine zqar (N := 5) rfl ?_); refine Kd.R_lit (Kd.int .i64) _ 3 ?hg (N := 5) ?hd (xs := ([] : List Int)) (inner := []) (ok := fun _ => True) (okp := fun _ => True) ?hr ?hp (fun _ hk => hk) trivial (Below.refl _ _) (Nat.le_refl _) (by simp) ?_; (case hd => rfl); (case hg => rfl); (case hr => first | (go_simp; done) | (go_simp; rfl)); (case hp => exact (Reps.none _ _)); intro v938 w4 ho5 hb hg_ hnew_; clear hg_ hnew_; (first | rw [← Ny937.out] at ho5 | (simp only [Int.reduceToNat] at ho5; rw [← Ny937.out] at ho5)); have n0_ := Aside0.mk (Kd.R_lower ho5 (zqaj (by repeat (with_reducible first | exact HB.out | apply zqad | apply zqac | apply zqae)))); have n1_ := Aside0.mk (zqak (by repeat (with_reducible first | exact HB.out | apply zqad | apply zqac | apply zqae)) hb); clear HB; have HO939 := n0_; have HB := n1_; clear n0_ n1_; clear hb ho5) | ((with_reducible refine zqal (f := 83) rfl ?_); refine goesL_ (some 7) rfl rfl Try.func83 (by kernel_rfl) rfl #[.slice A0 l0.length c0] rfl (by (try simp only [List.map_toArray, List.map_cons, List.map_nil]); first | done | rfl | (simp only [List.length_drop, List.length_take]; rfl)) ?_; (with_reducible refine (magnetoref01_Check.calls k _ _ l0 t940 _ ?side1 ?side2 A2.out).mono ?_); (case side1 => repeat (first | exact (Kd.C_below HR0.out HB.out) | (with_reducible refine Kd.C_alloc ?_ _) | (with_reducible refine Kd.C_drewN ?_ _) | (with_reducible refine Kd.C_drew ?_))); (case side2 => exact HC0.out); rintro e w' ⟨rfl, ⟨nd, rfl⟩⟩; refine ⟨_, rfl, ?_⟩))
  go_ret
  exact ⟨_, by first | rfl | (simp [errW_none, errW_some] <;> rfl) | (simp [*, errW_none, errW_some] <;> rfl), by (with_reducible repeat (first | apply Kd.R_alloc | apply Kd.R_drewN | apply Kd.R_drew)); exact HO939.out, by repeat (with_reducible first | exact HB.out | apply zqad | apply zqac | apply zqae)⟩
 ·
  rw [if_neg c3] at H
  have c3b0 : decide (0 ≤ t940) = false := decide_eq_false c3
  clear c3
  have H' := Aside0.mk H
  clear H
  go_enter Try.func66, Try.ntmps66
  go_wp2_with (first | ((with_reducible refine zqar (N := 5) rfl ?_); refine Kd.R_lit (Kd.int .i64) _ 3 ?hg (N := 5) ?hd (xs := ([] : List Int)) (inner := []) (ok := fun _ => True) (okp := fun _ => True) ?hr ?hp (fun _ hk => hk) trivial (Below.refl _ _) (Nat.le_refl _) (by simp) ?_; (case hd => rfl); (case hg => rfl); (case hr => first | (go_simp; done) | (go_simp; rfl)); (case hp => exact (Reps.none _ _)); intro v938 w6 ho7 hb hg_ hnew_; clear hg_ hnew_; (first | rw [← Ny937.out] at ho7 | (simp only [Int.reduceToNat] at ho7; rw [← Ny937.out] at ho7)); have n0_ := Aside0.mk (Kd.R_lower ho7 (zqaj (by repeat (with_reducible first | exact HB.out | apply zqad | apply zqac | apply zqae)))); have n1_ := Aside0.mk (zqak (by repeat (with_reducible first | exact HB.out | apply zqad | apply zqac | apply zqae)) hb); clear HB; have HO939 := n0_; have HB := n1_; clear n0_ n1_; clear hb ho7) | ((with_reducible refine zqal (f := 83) rfl ?_); refine goesL_ (some 7) rfl rfl Try.func83 (by kernel_rfl) rfl #[.slice A0 l0.length c0] rfl (by (try simp only [List.map_toArray, List.map_cons, List.map_nil]); first | done | rfl | (simp only [List.length_drop, List.length_take]; rfl)) ?_; (with_reducible refine (magnetoref01_Check.calls k _ _ l0 t940 _ ?side1 ?side2 A2.out).mono ?_); (case side1 => repeat (first | exact (Kd.C_below HR0.out HB.out) | (with_reducible refine Kd.C_alloc ?_ _) | (with_reducible refine Kd.C_drewN ?_ _) | (with_reducible refine Kd.C_drew ?_))); (case side2 => exact HC0.out); rintro e w' ⟨rfl, ⟨nd, rfl⟩⟩; refine ⟨_, rfl, ?_⟩))
  go_loopg [3, 4] k (fun kq v3 v4 w' => ∃ (x3_1 : List Int) (x4_1 : Int), v4 = .int .i64 x4_1 ∧ Aside0 (magnetoref05_Add.l0 kq l0 x3_1 x4_1 = some r) ∧ Aside0 (kq ≤ k) ∧ Aside0 (Kd.R (Kd.int .i64) 3 w' w.heap.size (fun _ => True) v3 x3_1) ∧ Aside0 (Below w.heap.size w w'))
  case atStart => exact ⟨(y937), (0), (by first | rfl | (simp; done) | (simp [*]; done)), H', ⟨Nat.le_refl _⟩, ⟨by (with_reducible repeat (first | apply Kd.R_alloc | apply Kd.R_drewN | apply Kd.R_drew)); exact HO939.out⟩, ⟨by repeat (with_reducible first | exact HB.out | apply zqad | apply zqac | apply zqae)⟩⟩
  case round =>
   clear H'
   try clear p2
   try clear c3
   try clear c3b0
   try clear c6
   obtain ⟨x3_1, x4_1, rfl, HA, HK1, HO_3, HB⟩ := hrel
   cases gk with
   | zero => exact absurd HA.out (by simp [magnetoref05_Add.l0])
   | succ k1 =>
    have H := HA.out
    clear HA
    simp only [magnetoref05_Add.l0] at H
    by_cases c8 : x4_1 < (l0.length : Int)
    ·
     rw [if_pos c8] at H
     have c8b0 : decide (x4_1 < (l0.length : Int)) = true := decide_eq_true c8
     clear c8
     by_cases c9 : 0 ≤ x4_1
     ·
      rw [if_pos c9] at H
      have c9b0 : decide (0 ≤ x4_1) = true := decide_eq_true c9
      clear c9
      by_cases c10 : x3_1.length < 17592186044416
      ·
       rw [if_pos c10] at H
       have LMc10 := Aside0.mk c10
       clear c10
       obtain ⟨y942, hy942⟩ : ∃ y_ : List Int, y_ = (x3_1 ++ [rd l0 x4_1]) := ⟨_, rfl⟩
       replace H : ((magnetoref05_Five.f k1 y942).bind fun t945 => (if t945 = true then (if y942.length < 17592186044416 then (magnetoref05_Add.l0 k1 l0 (y942 ++ [wrap64 (1 - (rd l0 x4_1))]) (wrap64 (x4_1 + 1))) else (none)) else (magnetoref05_Add.l0 k1 l0 y942 (wrap64 (x4_1 + 1))))) = some r := by first | (rw [hy942]; with_reducible exact H) | (have H2_ := (Option.bind_some _ _).symm.trans H; rw [hy942]; with_reducible exact H2_) | (have H2_ := (Option.bind_some _ _).symm.trans H; with_reducible exact H2_) | with_reducible exact H | (rw [hy942]; exact H) | exact H
       have Ny942 := Aside0.mk hy942
       clear hy942
       replace H := Option.bind_eq_some_iff.mp H
       obtain ⟨t945, A110, H⟩ := H
       replace H : (if t945 = true then (if y942.length < 17592186044416 then (magnetoref05_Add.l0 k1 l0 (y942 ++ [wrap64 (1 - (rd l0 x4_1))]) (wrap64 (x4_1 + 1))) else (none)) else (magnetoref05_Add.l0 k1 l0 y942 (wrap64 (x4_1 + 1)))) = some r := H
       have A11 := Aside0.mk A110
       clear A110
       by_cases c12 : t945 = true
       ·
        subst c12
        have H1 : (if y942.length < 17592186044416 then (magnetoref05_Add.l0 k1 l0 (y942 ++ [wrap64 (1 - (rd l0 x4_1))]) (wrap64 (x4_1 + 1))) else (none)) = some r := by rw [if_pos rfl] at H; exact H
        clear H
        have H := H1
        clear H1
        by_cases c13 : y942.length < 17592186044416
        ·
         rw [if_pos c13] at H
         have LMc13 := Aside0.mk c13
         clear c13
         obtain ⟨y947, hy947⟩ : ∃ y_ : List Int, y_ = (y942 ++ [wrap64 (1 - (rd l0 x4_1))]) := ⟨_, rfl⟩
         replace H : (magnetoref05_Add.l0 k1 l0 y947 (wrap64 (x4_1 + 1))) = some r := by first | (rw [hy947]; with_reducible exact H) | (have H2_ := (Option.bind_some _ _).symm.trans H; rw [hy947]; with_reducible exact H2_) | (have H2_ := (Option.bind_some _ _).symm.trans H; with_reducible exact H2_) | with_reducible exact H | (rw [hy947]; exact H) | exact H
         have Ny947 := Aside0.mk hy947
         clear hy947
         have H' := Aside0.mk H
         clear H
         have p941 : 0 ≤ (x4_1 : Int) := of_decide_eq_true (by first | (with_reducible assumption) | assumption)
         have q941 : x4_1 < (l0.length : Int) := of_decide_eq_true (by first | (with_reducible assumption) | assumption)
         obtain ⟨ad941, e941, hx941_0⟩ := Kd.at_int HR0.out x4_1 p941 q941
         cases e941
         replace hx941_0 := (HB.out.cell (World.block_lt_of_cell? w _ hx941_0)).trans hx941_0
         replace p941 := eq_true p941
         replace q941 := eq_true q941
         go_wp2_with (first | ((with_reducible refine zqao (b := .append) (xs := #[.tmp 16, .tmp 21]) rfl ?_); at_builtin; refine Kd.R_append (Kd.int .i64) (w0 := w) w.heap.size rfl (.tmp 16) (.tmp 21) 25 3 (.int .i64 0) 8 rfl Try.underlying25 info3 rfl (by decide) (by omega) u3 x3_1 (rd l0 x4_1) [.int .i64 (rd l0 x4_1)] (fun _ => True) (fun _ => False) rfl rfl ?aP (fun _ hk => hk.elim) ?aF ?aO ?aB ?aS ?aL ?_; (case aP => exact rfl); (case aB => exact (by repeat (with_reducible first | exact HB.out | apply zqad | apply zqac | apply zqae))); (case aF => exact (fun _ _ => trivial)); (case aO => exact (by (with_reducible repeat (first | apply Kd.R_alloc | apply Kd.R_drewN | apply Kd.R_drew)); exact HO_3.out)); (case aS => exact (zqaj (by repeat (with_reducible first | exact HB.out | apply zqad | apply zqac | apply zqae)))); (case aL => have := LMc10.out; omega); intro v943 w14 ho hb hg hat; rw [← Ny942.out] at ho; have n0_ := Aside0.mk (hb); have n1_ := Aside0.mk (ho); clear HB; clear HO_3; have HB := n0_; have HO944 := n1_; clear n0_ n1_; clear ho hb hg hat; obtain ⟨Ao15, co15, eo15⟩ := Kd.R_slice HO944.out; subst eo15) | ((with_reducible refine zqal (f := 84) rfl ?_); refine goesL_ (some 24) rfl rfl Try.func84 (by kernel_rfl) rfl #[.slice Ao15 y942.length co15] rfl (by (try simp only [List.map_toArray, List.map_cons, List.map_nil]); first | done | rfl | (simp only [List.length_drop, List.length_take]; rfl)) ?_; (with_reducible refine (magnetoref05_Five.calls k1 _ _ y942 true _ ?side1 ?side2 A11.out).mono ?_); (case side1 => repeat (first | exact (Kd.R_reads' HO944.out).2.2 | (with_reducible refine Kd.C_alloc ?_ _) | (with_reducible refine Kd.C_drewN ?_ _) | (with_reducible refine Kd.C_drew ?_))); (case side2 => exact (Kd.R_reads' HO944.out).2.1); rintro e w' ⟨rfl, ⟨nd, rfl⟩⟩; refine ⟨_, rfl, ?_⟩; have p946 : 0 ≤ (x4_1 : Int) := of_decide_eq_true (by first | (with_reducible assumption) | assumption); have q946 : x4_1 < (l0.length : Int) := of_decide_eq_true (by first | (with_reducible assumption) | assumption); obtain ⟨ad946, e946, hx946_0⟩ := Kd.at_int HR0.out x4_1 p946 q946; obtain rfl : ad941 = ad946 := (by injection e946); replace hx946_0 := (HB.out.cell (World.block_lt_of_cell? w _ hx946_0)).trans hx946_0; replace p946 := eq_true p946; replace q946 := eq_true q946) | ((with_reducible refine zqao (b := .append) (xs := #[.tmp 25, .tmp 31]) rfl ?_); at_builtin; refine Kd.R_append (Kd.int .i64) (w0 := w) w.heap.size rfl (.tmp 25) (.tmp 31) 25 3 (.int .i64 0) 8 rfl Try.underlying25 info3 rfl (by decide) (by omega) (.slice Ao15 y942.length co15) y942 (wrap64 (1 - (rd l0 x4_1))) [.int .i64 (wrap64 (1 - (rd l0 x4_1)))] (fun _ => True) (fun _ => False) rfl rfl ?aP (fun _ hk => hk.elim) ?aF ?aO ?aB ?aS ?aL ?_; (case aP => exact rfl); (case aB => exact (by repeat (with_reducible first | exact HB.out | apply zqad | apply zqac | apply zqae))); (case aF => exact (fun _ _ => trivial)); (case aO => exact (by (with_reducible repeat (first | apply Kd.R_alloc | apply Kd.R_drewN | apply Kd.R_drew)); exact HO944.out)); (case aS => exact (zqaj (by repeat (with_reducible first | exact HB.out | apply zqad | apply zqac | apply zqae)))); (case aL => have := LMc13.out; omega); intro v948 w16 ho hb hg hat; rw [← Ny947.out] at ho; have n0_ := Aside0.mk (hb); have n1_ := Aside0.mk (ho); clear HB; clear HO944; have HB := n0_; have HO949 := n1_; clear n0_ n1_; clear ho hb hg hat))
         go_roundg k1
         case measure => have := HK1.out; omega
         case rel => exact ⟨(y947), (wrap64 (x4_1 + 1)), (by first | rfl | (simp; done) | (simp [*]; done)), H', ⟨by have := HK1.out; omega⟩, ⟨by (with_reducible repeat (first | apply Kd.R_alloc | apply Kd.R_drewN | apply Kd.R_drew)); exact HO949.out⟩, ⟨by repeat (with_reducible first | exact HB.out | apply zqad | apply zqac | apply zqae)⟩⟩
        ·
         rw [if_neg c13] at H
         exact absurd H (by simp)
       ·
        replace c12 := Bool.eq_false_iff.mpr c12
        subst c12
        have H1 : (magnetoref05_Add.l0 k1 l0 y942 (wrap64 (x4_1 + 1))) = some r := by rw [if_neg (show ¬ (false = true) by decide)] at H; exact H
        clear H
        have H := H1
        clear H1
        have H' := Aside0.mk H
        clear H
        have p941 : 0 ≤ (x4_1 : Int) := of_decide_eq_true (by first | (with_reducible assumption) | assumption)
        have q941 : x4_1 < (l0.length : Int) := of_decide_eq_true (by first | (with_reducible assumption) | assumption)
        obtain ⟨ad941, e941, hx941_0⟩ := Kd.at_int HR0.out x4_1 p941 q941
        cases e941
        replace hx941_0 := (HB.out.cell (World.block_lt_of_cell? w _ hx941_0)).trans hx941_0
        replace p941 := eq_true p941
        replace q941 := eq_true q941
        go_wp2_with (first | ((with_reducible refine zqao (b := .append) (xs := #[.tmp 16, .tmp 21]) rfl ?_); at_builtin; refine Kd.R_append (Kd.int .i64) (w0 := w) w.heap.size rfl (.tmp 16) (.tmp 21) 25 3 (.int .i64 0) 8 rfl Try.underlying25 info3 rfl (by decide) (by omega) u3 x3_1 (rd l0 x4_1) [.int .i64 (rd l0 x4_1)] (fun _ => True) (fun _ => False) rfl rfl ?aP (fun _ hk => hk.elim) ?aF ?aO ?aB ?aS ?aL ?_; (case aP => exact rfl); (case aB => exact (by repeat (with_reducible first | exact HB.out | apply zqad | apply zqac | apply zqae))); (case aF => exact (fun _ _ => trivial)); (case aO => exact (by (with_reducible repeat (first | apply Kd.R_alloc | apply Kd.R_drewN | apply Kd.R_drew)); exact HO_3.out)); (case aS => exact (zqaj (by repeat (with_reducible first | exact HB.out | apply zqad | apply zqac | apply zqae)))); (case aL => have := LMc10.out; omega); intro v943 w17 ho hb hg hat; rw [← Ny942.out] at ho; have n0_ := Aside0.mk (hb); have n1_ := Aside0.mk (ho); clear HB; clear HO_3; have HB := n0_; have HO944 := n1_; clear n0_ n1_; clear ho hb hg hat; obtain ⟨Ao18, co18, eo18⟩ := Kd.R_slice HO944.out; subst eo18) | ((with_reducible refine zqal (f := 84) rfl ?_); refine goesL_ (some 24) rfl rfl Try.func84 (by kernel_rfl) rfl #[.slice Ao18 y942.length co18] rfl (by (try simp only [List.map_toArray, List.map_cons, List.map_nil]); first | done | rfl | (simp only [List.length_drop, List.length_take]; rfl)) ?_; (with_reducible refine (magnetoref05_Five.calls k1 _ _ y942 false _ ?side1 ?side2 A11.out).mono ?_); (case side1 => repeat (first | exact (Kd.R_reads' HO944.out).2.2 | (with_reducible refine Kd.C_alloc ?_ _) | (with_reducible refine Kd.C_drewN ?_ _) | (with_reducible refine Kd.C_drew ?_))); (case side2 => exact (Kd.R_reads' HO944.out).2.1); rintro e w' ⟨rfl, ⟨nd, rfl⟩⟩; refine ⟨_, rfl, ?_⟩))
        go_roundg k1
        case measure => have := HK1.out; omega
        case rel => exact ⟨(y942), (wrap64 (x4_1 + 1)), (by first | rfl | (simp; done) | (simp [*]; done)), H', ⟨by have := HK1.out; omega⟩, ⟨by (with_reducible repeat (first | apply Kd.R_alloc | apply Kd.R_drewN | apply Kd.R_drew)); exact HO944.out⟩, ⟨by repeat (with_reducible first | exact HB.out | apply zqad | apply zqac | apply zqae)⟩⟩
      ·
       rw [if_neg c10] at H
       exact absurd H (by simp)
     ·
      rw [if_neg c9] at H
      exact absurd H (by simp)
    ·
     rw [if_neg c8] at H
     have c8b0 : decide (x4_1 < (l0.length : Int)) = false := decide_eq_false c8
     clear c8
     obtain rfl := Option.some.inj H
     go_wp2
     go_ret
     exact ⟨_, by first | rfl | (simp [errW_none, errW_some] <;> rfl) | (simp [*, errW_none, errW_some] <;> rfl), by (with_reducible repeat (first | apply Kd.R_alloc | apply Kd.R_drewN | apply Kd.R_drew)); exact HO_3.out, by repeat (with_reducible first | exact HB.out | apply zqad | apply zqac | apply zqae)⟩

end Go.Proofs.Ytakemodmdhglnaa.PA
