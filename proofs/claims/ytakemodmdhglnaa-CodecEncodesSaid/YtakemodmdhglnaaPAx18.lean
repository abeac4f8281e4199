/- Functions of the program, in plain Lean, and their walks (printed; half the indent). Conditions: none. -/
-- PRINTED by print.py (a twelfth state) out of the translation. Not trusted: Lean checks it.
import Derived.Test.YtakemodmdhglnaaPAx0
import Derived.Test.YtakemodmdhglnaaPAx8
import Derived.Test.YtakemodmdhglnaaPAx14
import Derived.Test.YtakemodmdhglnaaPAx15
import Derived.Test.YtakemodmdhglnaaPAx16
namespace Go.Proofs.Ytakemodmdhglnaa.PA
open Go.RowKit Go.Proofs.YtakemodmdhglnaaW.PrintWords Go.Proofs.YtakemodmdhglnaaW.PrintLast Go.Proofs.YtakemodmdhglnaaW.PrintMore
attribute [local go_sem] zqbb zqaz zqbd zqbe zqax zqay zqba zqbc   -- for this text's walks alone
set_option linter.unusedVariables false
set_option linter.unusedSimpArgs false

/-! ### field_Ahead: function 24 -/
def field_Ahead.f (l0 : List Int) : Option (Int × Int) := (bits_Check.f l0).bind fun t177 => (if t177 ≥ 0 then (some (0, 10)) else ((field_read.f l0).bind fun bt178 => (if bt178.2.2.2.2.2 = true then ((field_head_sum.f bt178.1 bt178.2.1 bt178.2.2.1 bt178.2.2.2.1 bt178.2.2.2.2.1).bind fun t185 => (some (t185, 0))) else (some (0, 13)))))
set_option maxHeartbeats 8000000 in
set_option maxRecDepth 100000 in
theorem field_Ahead.calls (A0 : Option Addr) (c0 : Nat) (l0 : List Int) (r1 : Int) (r2 : Int) (w : World) (hr0 : Kd.C (Kd.int .i64) w A0 l0.length l0) (hc0 : l0.length ≤ c0) (h : field_Ahead.f l0 = some (r1, r2)) :
  Calls Try.prog 24 #[.slice A0 l0.length c0] w fun e w' => e = .returned (.tuple #[.int .i64 r1, .int .i64 r2]) ∧ Below w.heap.size w w' := by
 have hu72 := Try.underlying72
 have HR0 := Aside0.mk hr0
 have HC0 := Aside0.mk hc0
 clear hr0 hc0
 have HB := Aside0.mk (Below.refl w.heap.size w)
 have H : ((bits_Check.f l0).bind fun t177 => (if t177 ≥ 0 then (some (0, 10)) else ((field_read.f l0).bind fun bt178 => (if bt178.2.2.2.2.2 = true then ((field_head_sum.f bt178.1 bt178.2.1 bt178.2.2.1 bt178.2.2.2.1 bt178.2.2.2.2.1).bind fun t185 => (some (t185, 0))) else (some (0, 13)))))) = some (r1, r2) := h
 clear h
 replace H := Option.bind_eq_some_iff.mp H
 obtain ⟨t177, A20, H⟩ := H
 replace H : (if t177 ≥ 0 then (some (0, 10)) else ((field_read.f l0).bind fun bt178 => (if bt178.2.2.2.2.2 = true then ((field_head_sum.f bt178.1 bt178.2.1 bt178.2.2.1 bt178.2.2.2.1 bt178.2.2.2.2.1).bind fun t185 => (some (t185, 0))) else (some (0, 13))))) = some (r1, r2) := H
 have A2 := Aside0.mk A20
 clear A20
 by_cases c3 : t177 ≥ 0
 ·
  rw [if_pos c3] at H
  have c3b0 : decide (0 ≤ t177) = true := decide_eq_true c3
  clear c3
  simp only [Option.some.injEq, Prod.mk.injEq] at H
  obtain ⟨rfl, rfl⟩ := H
  go_enter Try.func24, Try.ntmps24
  go_wp2_with (first | ((with_reducible refine zqal (f := 53) rfl ?_); refine goesL_ (some 7) rfl rfl Try.func53 (by kernel_rfl) rfl #[.slice A0 l0.length c0] rfl (by (try simp only [List.map_toArray, List.map_cons, List.map_nil]); first | done | rfl | (simp only [List.length_drop, List.length_take]; rfl)) ?_; (with_reducible refine (bits_Check.calls _ _ l0 t177 _ ?side1 ?side2 A2.out).mono ?_); (case side1 => repeat (first | exact HR0.out | (with_reducible refine Kd.C_alloc ?_ _) | (with_reducible refine Kd.C_drewN ?_ _) | (with_reducible refine Kd.C_drew ?_))); (case side2 => exact HC0.out); rintro e w' ⟨rfl, ⟨nd, rfl⟩⟩; refine ⟨_, rfl, ?_⟩))
  go_ret2
  exact ⟨by first | rfl | (simp [errW_none, errW_some] <;> rfl) | (simp [*, errW_none, errW_some] <;> rfl), by repeat (with_reducible first | exact HB.out | apply zqad | apply zqac | apply zqae)⟩
 ·
  rw [if_neg c3] at H
  have c3b0 : decide (0 ≤ t177) = false := decide_eq_false c3
  clear c3
  replace H := Option.bind_eq_some_iff.mp H
  obtain ⟨⟨t178, t179, t180, t181, t182, t183⟩, A40, H⟩ := H
  replace H : (if t183 = true then ((field_head_sum.f t178 t179 t180 t181 t182).bind fun t185 => (some (t185, 0))) else (some (0, 13))) = some (r1, r2) := H
  have A4 := Aside0.mk A40
  clear A40
  by_cases c5 : t183 = true
  ·
   subst c5
   have H1 : ((field_head_sum.f t178 t179 t180 t181 t182).bind fun t185 => (some (t185, 0))) = some (r1, r2) := by rw [if_pos rfl] at H; exact H
   clear H
   have H := H1
   clear H1
   replace H := Option.bind_eq_some_iff.mp H
   obtain ⟨t185, A60, H⟩ := H
   replace H : (some (t185, 0)) = some (r1, r2) := H
   have A6 := Aside0.mk A60
   clear A60
   simp only [Option.some.injEq, Prod.mk.injEq] at H
   obtain ⟨rfl, rfl⟩ := H
   go_enter Try.func24, Try.ntmps24
   go_wp2_with (first | ((with_reducible refine zqal (f := 53) rfl ?_); refine goesL_ (some 7) rfl rfl Try.func53 (by kernel_rfl) rfl #[.slice A0 l0.length c0] rfl (by (try simp only [List.map_toArray, List.map_cons, List.map_nil]); first | done | rfl | (simp only [List.length_drop, List.length_take]; rfl)) ?_; (with_reducible refine (bits_Check.calls _ _ l0 t177 _ ?side1 ?side2 A2.out).mono ?_); (case side1 => repeat (first | exact HR0.out | (with_reducible refine Kd.C_alloc ?_ _) | (with_reducible refine Kd.C_drewN ?_ _) | (with_reducible refine Kd.C_drew ?_))); (case side2 => exact HC0.out); rintro e w' ⟨rfl, ⟨nd, rfl⟩⟩; refine ⟨_, rfl, ?_⟩) | ((with_reducible refine zqal (f := 54) rfl ?_); refine goesL_ (some 11) rfl rfl Try.func54 (by kernel_rfl) rfl #[.slice A0 l0.length c0] rfl (by (try simp only [List.map_toArray, List.map_cons, List.map_nil]); first | done | rfl | (simp only [List.length_drop, List.length_take]; rfl)) ?_; (with_reducible refine (field_read.calls _ _ l0 t178 t179 t180 t181 t182 true _ ?side1 ?side2 A4.out).mono ?_); (case side1 => repeat (first | exact HR0.out | (with_reducible refine Kd.C_alloc ?_ _) | (with_reducible refine Kd.C_drewN ?_ _) | (with_reducible refine Kd.C_drew ?_))); (case side2 => exact HC0.out); rintro e w7 ⟨rfl, hb⟩; refine ⟨_, rfl, ?_⟩; have n0_ := Aside0.mk (zqak (by repeat (with_reducible first | exact HB.out | apply zqad | apply zqac | apply zqae)) hb); clear HB; have HB := n0_; clear n0_; (try clear hb); (try clear hb2); (try clear hk); (try clear hi)) | ((with_reducible refine zqar (N := 4) rfl ?_); refine zqav ?hg (N := 4) ?hd (cs := #[.bool false, .bool false, .int .i64 0, .int .i64 0, .int .i64 0]) (t := 72) ?hr ?_; (case hd => rfl); (case hg => rfl); (case hr => first | (go_simp; done) | (go_simp; rfl)); intro gb184 hg w8 hbox hb; have n0_ := Aside0.mk (zqak (by repeat (with_reducible first | exact HB.out | apply zqad | apply zqac | apply zqae)) hb); have n1_ := Aside0.mk (hbox); have n2_ := Aside0.mk ((by rw [hg]; exact (zqaj (by repeat (with_reducible first | exact HB.out | apply zqad | apply zqac | apply zqae))) : w.heap.size ≤ gb184)); have n3_ := Aside0.mk ((by rw [hg]; exact (zqaj (by repeat (with_reducible first | exact HB.out | apply zqad | apply zqac | apply zqae))) : w.heap.size ≤ gb184)); clear HB; have HB := n0_; have BK184 := n1_; have GW184 := n2_; have GE184 := n3_; clear n0_ n1_ n2_ n3_; clear hb hbox hg; have hcz9_0 : w8.cell? ⟨gb184, 0, none⟩ = some (.bool false) := (zqab BK184.out 0).trans rfl; have hcz9_1 : w8.cell? ⟨gb184, 1, none⟩ = some (.bool false) := (zqab BK184.out 1).trans rfl; have hcz9_2 : w8.cell? ⟨gb184, 2, none⟩ = some (.int .i64 0) := (zqab BK184.out 2).trans rfl; have hcz9_3 : w8.cell? ⟨gb184, 3, none⟩ = some (.int .i64 0) := (zqab BK184.out 3).trans rfl; have hcz9_4 : w8.cell? ⟨gb184, 4, none⟩ = some (.int .i64 0) := (zqab BK184.out 4).trans rfl; have hfz9_0 := zqaa BK184.out 0; have hfz9_1 := zqaa BK184.out 1; have hfz9_2 := zqaa BK184.out 2; have hfz9_3 := zqaa BK184.out 3; have hfz9_4 := zqaa BK184.out 4) | ((with_reducible refine zqal (f := 55) rfl ?_); refine goesL_ (some 17) rfl rfl Try.func55 (by kernel_rfl) rfl #[.agg #[.bool t178, .bool t179, .int .i64 t180, .int .i64 t181, .int .i64 t182]] rfl (by (try simp only [List.map_toArray, List.map_cons, List.map_nil]); first | done | rfl | (simp only [List.length_drop, List.length_take]; rfl)) ?_; (with_reducible refine (field_head_sum.calls t178 t179 t180 t181 t182 t185 _ A6.out).mono ?_); rintro e w10 ⟨rfl, hb⟩; refine ⟨_, rfl, ?_⟩; have n0_ := Aside0.mk (zqam (g := gb184) (o := .cells #[.bool t178, .bool t179, .int .i64 t180, .int .i64 t181, .int .i64 t182] 72 (0, 0)) (by (with_reducible repeat (first | refine zqag ?_ _ | refine zqai ?_ | refine zqaf ?_ _)); refine zqan (cs := #[.bool t178, .bool t179, .int .i64 t180, .int .i64 t181, .int .i64 0]) ?_ 4 _ rfl; (with_reducible repeat (first | refine zqag ?_ _ | refine zqai ?_ | refine zqaf ?_ _)); refine zqan (cs := #[.bool t178, .bool t179, .int .i64 t180, .int .i64 0, .int .i64 0]) ?_ 3 _ rfl; (with_reducible repeat (first | refine zqag ?_ _ | refine zqai ?_ | refine zqaf ?_ _)); refine zqan (cs := #[.bool t178, .bool t179, .int .i64 0, .int .i64 0, .int .i64 0]) ?_ 2 _ rfl; (with_reducible repeat (first | refine zqag ?_ _ | refine zqai ?_ | refine zqaf ?_ _)); refine zqan (cs := #[.bool t178, .bool false, .int .i64 0, .int .i64 0, .int .i64 0]) ?_ 1 _ rfl; (with_reducible repeat (first | refine zqag ?_ _ | refine zqai ?_ | refine zqaf ?_ _)); refine zqan (cs := #[.bool false, .bool false, .int .i64 0, .int .i64 0, .int .i64 0]) ?_ 0 _ rfl; (with_reducible repeat (first | refine zqag ?_ _ | refine zqai ?_ | refine zqaf ?_ _)); exact BK184.out) hb); have n1_ := Aside0.mk (zqak (by repeat (with_reducible first | exact HB.out | apply zqad | apply zqac | apply zqae | refine zqah ?_ GE184.out)) hb); clear BK184; clear HB; have BK184 := n0_; have HB := n1_; clear n0_ n1_; (try clear hb); (try clear hb2); (try clear hk); (try clear hi)))
   go_ret2
   exact ⟨by first | rfl | (simp [errW_none, errW_some] <;> rfl) | (simp [*, errW_none, errW_some] <;> rfl), by repeat (with_reducible first | exact HB.out | apply zqad | apply zqac | apply zqae | refine zqah ?_ GE184.out)⟩
  ·
   replace c5 := Bool.eq_false_iff.mpr c5
   subst c5
   have H1 : (some (0, 13)) = some (r1, r2) := by rw [if_neg (show ¬ (false = true) by decide)] at H; exact H
   clear H
   have H := H1
   clear H1
   simp only [Option.some.injEq, Prod.mk.injEq] at H
   obtain ⟨rfl, rfl⟩ := H
   go_enter Try.func24, Try.ntmps24
   go_wp2_with (first | ((with_reducible refine zqal (f := 53) rfl ?_); refine goesL_ (some 7) rfl rfl Try.func53 (by kernel_rfl) rfl #[.slice A0 l0.length c0] rfl (by (try simp only [List.map_toArray, List.map_cons, List.map_nil]); first | done | rfl | (simp only [List.length_drop, List.length_take]; rfl)) ?_; (with_reducible refine (bits_Check.calls _ _ l0 t177 _ ?side1 ?side2 A2.out).mono ?_); (case side1 => repeat (first | exact HR0.out | (with_reducible refine Kd.C_alloc ?_ _) | (with_reducible refine Kd.C_drewN ?_ _) | (with_reducible refine Kd.C_drew ?_))); (case side2 => exact HC0.out); rintro e w' ⟨rfl, ⟨nd, rfl⟩⟩; refine ⟨_, rfl, ?_⟩) | ((with_reducible refine zqal (f := 54) rfl ?_); refine goesL_ (some 11) rfl rfl Try.func54 (by kernel_rfl) rfl #[.slice A0 l0.length c0] rfl (by (try simp only [List.map_toArray, List.map_cons, List.map_nil]); first | done | rfl | (simp only [List.length_drop, List.length_take]; rfl)) ?_; (with_reducible refine (field_read.calls _ _ l0 t178 t179 t180 t181 t182 false _ ?side1 ?side2 A4.out).mono ?_); (case side1 => repeat (first | exact HR0.out | (with_reducible refine Kd.C_alloc ?_ _) | (with_reducible refine Kd.C_drewN ?_ _) | (with_reducible refine Kd.C_drew ?_))); (case side2 => exact HC0.out); rintro e w11 ⟨rfl, hb⟩; refine ⟨_, rfl, ?_⟩; have n0_ := Aside0.mk (zqak (by repeat (with_reducible first | exact HB.out | apply zqad | apply zqac | apply zqae)) hb); clear HB; have HB := n0_; clear n0_; (try clear hb); (try clear hb2); (try clear hk); (try clear hi)) | ((with_reducible refine zqar (N := 4) rfl ?_); refine zqav ?hg (N := 4) ?hd (cs := #[.bool false, .bool false, .int .i64 0, .int .i64 0, .int .i64 0]) (t := 72) ?hr ?_; (case hd => rfl); (case hg => rfl); (case hr => first | (go_simp; done) | (go_simp; rfl)); intro gb184 hg w12 hbox hb; have n0_ := Aside0.mk (zqak (by repeat (with_reducible first | exact HB.out | apply zqad | apply zqac | apply zqae)) hb); have n1_ := Aside0.mk (hbox); have n2_ := Aside0.mk ((by rw [hg]; exact (zqaj (by repeat (with_reducible first | exact HB.out | apply zqad | apply zqac | apply zqae))) : w.heap.size ≤ gb184)); have n3_ := Aside0.mk ((by rw [hg]; exact (zqaj (by repeat (with_reducible first | exact HB.out | apply zqad | apply zqac | apply zqae))) : w.heap.size ≤ gb184)); clear HB; have HB := n0_; have BK184 := n1_; have GW184 := n2_; have GE184 := n3_; clear n0_ n1_ n2_ n3_; clear hb hbox hg; have hcz13_0 : w12.cell? ⟨gb184, 0, none⟩ = some (.bool false) := (zqab BK184.out 0).trans rfl; have hcz13_1 : w12.cell? ⟨gb184, 1, none⟩ = some (.bool false) := (zqab BK184.out 1).trans rfl; have hcz13_2 : w12.cell? ⟨gb184, 2, none⟩ = some (.int .i64 0) := (zqab BK184.out 2).trans rfl; have hcz13_3 : w12.cell? ⟨gb184, 3, none⟩ = some (.int .i64 0) := (zqab BK184.out 3).trans rfl; have hcz13_4 : w12.cell? ⟨gb184, 4, none⟩ = some (.int .i64 0) := (zqab BK184.out 4).trans rfl; have hfz13_0 := zqaa BK184.out 0; have hfz13_1 := zqaa BK184.out 1; have hfz13_2 := zqaa BK184.out 2; have hfz13_3 := zqaa BK184.out 3; have hfz13_4 := zqaa BK184.out 4))
   go_ret2
   exact ⟨by first | rfl | (simp [errW_none, errW_some] <;> rfl) | (simp [*, errW_none, errW_some] <;> rfl), by repeat (with_reducible first | exact HB.out | apply zqad | apply zqac | apply zqae | refine zqah ?_ GE184.out)⟩

/-! ### field_value: function 57 -/
def field_value.f (k : Nat) (l0 : List Int) : Option (Int) := (bits_Value.f k l0).bind fun bt186 => (some (wrap64 (bt186.1)))
theorem field_value.mono : ∀ a0 k, LeO (field_value.f k a0) (field_value.f (k + 1) a0) := by
 intro a0 k
 unfold field_value.f
 repeat' first
   | (with_reducible exact bits_Value.mono _ _)
   | (with_reducible exact LeO.refl _)
   | (with_reducible exact LeO.none _)
   | (with_reducible refine LeO.ite ?_ ?_)
   | (with_reducible refine LeO.bind ?_ (fun _ => ?_))
   | exact bits_Value.mono _ _
   | exact LeO.none _
   | refine LeO.ite ?_ ?_
   | refine LeO.bind ?_ (fun _ => ?_)
set_option maxHeartbeats 8000000 in
set_option maxRecDepth 100000 in
theorem field_value.calls (k : Nat) (A0 : Option Addr) (c0 : Nat) (l0 : List Int) (r : Int) (w : World) (hr0 : Kd.C (Kd.int .i64) w A0 l0.length l0) (hc0 : l0.length ≤ c0) (h : field_value.f k l0 = some r) :
  Calls Try.prog 57 #[.slice A0 l0.length c0] w fun e w' => e = .returned (.int .i64 r) ∧ Drawn0 w w' := by
 have HR0 := Aside0.mk hr0
 have HC0 := Aside0.mk hc0
 clear hr0 hc0
 have H : ((bits_Value.f k l0).bind fun bt186 => (some (wrap64 (bt186.1)))) = some r := h
 clear h
 replace H := Option.bind_eq_some_iff.mp H
 obtain ⟨⟨t186, t187⟩, A20, H⟩ := H
 replace H : (some (wrap64 (t186))) = some r := H
 have A2 := Aside0.mk A20
 clear A20
 obtain rfl := Option.some.inj H
 go_enter Try.func57, Try.ntmps57
 go_wp2_with (first | ((with_reducible refine zqal (f := 78) rfl ?_); refine goesL_ (some 7) rfl rfl Try.func78 (by kernel_rfl) rfl #[.slice A0 l0.length c0] rfl (by (try simp only [List.map_toArray, List.map_cons, List.map_nil]); first | done | rfl | (simp only [List.length_drop, List.length_take]; rfl)) ?_; (with_reducible refine (bits_Value.calls k _ _ l0 t186 t187 _ ?side1 ?side2 A2.out).mono ?_); (case side1 => repeat (first | exact HR0.out | (with_reducible refine Kd.C_alloc ?_ _) | (with_reducible refine Kd.C_drewN ?_ _) | (with_reducible refine Kd.C_drew ?_))); (case side2 => exact HC0.out); rintro e w' ⟨rfl, ⟨nd, rfl⟩⟩; refine ⟨_, rfl, ?_⟩))
 go_ret
 exact ⟨by first | rfl | (simp; done) | (simp [*]; done), by repeat (first | exact Drawn0.refl _ | apply Drawn0.step)⟩

end Go.Proofs.Ytakemodmdhglnaa.PA
