/- Functions of the program, in plain Lean, and their walks (printed; half the indent). Conditions: none. -/
-- PRINTED by print.py (a twelfth state) out of the translation. Not trusted: Lean checks it.
import Derived.Test.YtakemodmdhglnaaPAx0
import Derived.Test.YtakemodmdhglnaaPAx15
import Derived.Test.YtakemodmdhglnaaPAx18
namespace Go.Proofs.Ytakemodmdhglnaa.PA
open Go.RowKit Go.Proofs.YtakemodmdhglnaaW.PrintWords Go.Proofs.YtakemodmdhglnaaW.PrintLast Go.Proofs.YtakemodmdhglnaaW.PrintMore
attribute [local go_sem] zqbb zqaz zqbd zqbe zqax zqay zqba zqbc   -- for this text's walks alone
set_option linter.unusedVariables false
set_option linter.unusedSimpArgs false

/-! ### field_Frame: function 29 -/
mutual
def field_Frame.j0 : Nat → List Int → Int → Bool → Bool → Int → Int → Int → Int → Bool → Bool → Int → Int → Int → Int → Int → Int → Int → Int → Int → Option (Int × Bool × Bool × Int × Int × Int × Int × Int × Int × Int × Int × Int × Int)
 | 0, _, _, _, _, _, _, _, _, _, _, _, _, _, _, _, _, _, _, _ => none
 | k + 1, x0, x4, x199000, x199001, x199002, x199003, x199004, x202000, x202001, x202002, x202003, x202004, x202005, x202006, x202007, x202008, x202009, x202010, x202011 => field_Frame.l0 k x0 (wrap64 (Int.tdiv (wrap64 (x4 - x199003)) 8)) 0 x199000 x199001 x199002 x199003 x199004 x202000 x202001 x202002 x202003 x202004 x202005 x202006 x202007 x202008 x202009 x202010 x202011
def field_Frame.l0 : Nat → List Int → Int → Int → Bool → Bool → Int → Int → Int → Int → Bool → Bool → Int → Int → Int → Int → Int → Int → Int → Int → Int → Option (Int × Bool × Bool × Int × Int × Int × Int × Int × Int × Int × Int × Int × Int)
 | 0, _, _, _, _, _, _, _, _, _, _, _, _, _, _, _, _, _, _, _, _ => none
 | k + 1, x0, x61, x62, x199000, x199001, x199002, x199003, x199004, x202000, x202001, x202002, x202003, x202004, x202005, x202006, x202007, x202008, x202009, x202010, x202011 => if x62 < x61 then (if 0 ≤ (wrap64 (x199003 + (wrap64 (8 * x62)))) then (if (wrap64 (x199003 + (wrap64 (8 * x62)))) ≤ (wrap64 (x199003 + (wrap64 (8 * (wrap64 (x62 + 1)))))) then (if (wrap64 (x199003 + (wrap64 (8 * (wrap64 (x62 + 1)))))) ≤ (x0.length : Int) then ((field_value.f k ((x0.take ((wrap64 (x199003 + (wrap64 (8 * (wrap64 (x62 + 1)))))) : Int).toNat).drop ((wrap64 (x199003 + (wrap64 (8 * x62)))) : Int).toNat)).bind fun t205 => (if 0 ≤ x62 then (if x62 < 8 then (field_Frame.l0 k x0 x61 (wrap64 (x62 + 1)) x199000 x199001 x199002 x199003 x199004 x202000 x202001 x202002 x202003 (pk x62 0 ((t205) % 256) x202004) (pk x62 1 ((t205) % 256) x202005) (pk x62 2 ((t205) % 256) x202006) (pk x62 3 ((t205) % 256) x202007) (pk x62 4 ((t205) % 256) x202008) (pk x62 5 ((t205) % 256) x202009) (pk x62 6 ((t205) % 256) x202010) (pk x62 7 ((t205) % 256) x202011)) else (none)) else (none))) else (none)) else (none)) else (none)) else (some (x202000, x202001, x202002, x202003, x202004, x202005, x202006, x202007, x202008, x202009, x202010, x202011, 0))
end
def field_Frame.f (k : Nat) (l0 : List Int) : Option (Int × Bool × Bool × Int × Int × Int × Int × Int × Int × Int × Int × Int × Int) := (field_Ahead.f l0).bind fun bt189 => (if bt189.2 = 0 then (if (l0.length : Int) < bt189.1 then (some (0, false, false, 0, 0, 0, 0, 0, 0, 0, 0, 0, 13)) else (if 0 < (l0.length : Int) then (if (rd l0 0) = 0 then ((field_read.f l0).bind fun bt192 => (if 12 ≤ (l0.length : Int) then ((field_value.f k ((l0.take 12).drop 1)).bind fun t200 => (if bt192.1 = true then (if 32 ≤ (l0.length : Int) then ((field_value.f k ((l0.take 32).drop 14)).bind fun t203 => (field_Frame.j0 k l0 bt189.1 bt192.1 bt192.2.1 bt192.2.2.1 bt192.2.2.2.1 bt192.2.2.2.2.1 (Go.bits .or .i64 (wrap64 (t200 * 262144)) t203) bt192.1 bt192.2.1 bt192.2.2.2.2.1 0 0 0 0 0 0 0 0)) else (none)) else (field_Frame.j0 k l0 bt189.1 bt192.1 bt192.2.1 bt192.2.2.1 bt192.2.2.2.1 bt192.2.2.2.2.1 t200 bt192.1 bt192.2.1 bt192.2.2.2.2.1 0 0 0 0 0 0 0 0))) else (none))) else (some (0, false, false, 0, 0, 0, 0, 0, 0, 0, 0, 0, 11))) else (none))) else (some (0, false, false, 0, 0, 0, 0, 0, 0, 0, 0, 0, bt189.2)))
theorem field_Frame.mono_l : ∀ k, (∀ y0 y1 y2 y3 y4 y5 y6 y7 y8 y9 y10 y11 y12 y13 y14 y15 y16 y17 y18, LeO (field_Frame.j0 k y0 y1 y2 y3 y4 y5 y6 y7 y8 y9 y10 y11 y12 y13 y14 y15 y16 y17 y18) (field_Frame.j0 (k + 1) y0 y1 y2 y3 y4 y5 y6 y7 y8 y9 y10 y11 y12 y13 y14 y15 y16 y17 y18)) ∧ (∀ y0 y1 y2 y3 y4 y5 y6 y7 y8 y9 y10 y11 y12 y13 y14 y15 y16 y17 y18 y19, LeO (field_Frame.l0 k y0 y1 y2 y3 y4 y5 y6 y7 y8 y9 y10 y11 y12 y13 y14 y15 y16 y17 y18 y19) (field_Frame.l0 (k + 1) y0 y1 y2 y3 y4 y5 y6 y7 y8 y9 y10 y11 y12 y13 y14 y15 y16 y17 y18 y19))
 | 0 => ⟨fun _ _ _ _ _ _ _ _ _ _ _ _ _ _ _ _ _ _ _ r h => by simp [field_Frame.j0] at h, fun _ _ _ _ _ _ _ _ _ _ _ _ _ _ _ _ _ _ _ _ r h => by simp [field_Frame.l0] at h⟩
 | k + 1 => by
  obtain ⟨ih0, ih1⟩ := field_Frame.mono_l k
  refine ⟨?_, ?_⟩
  ·
   intro y0 y1 y2 y3 y4 y5 y6 y7 y8 y9 y10 y11 y12 y13 y14 y15 y16 y17 y18
   unfold field_Frame.j0
   repeat' first
   | (with_reducible exact ih0 _ _ _ _ _ _ _ _ _ _ _ _ _ _ _ _ _ _ _)
   | (with_reducible exact ih1 _ _ _ _ _ _ _ _ _ _ _ _ _ _ _ _ _ _ _ _)
   | (with_reducible exact field_value.mono _ _)
   | (with_reducible exact LeO.refl _)
   | (with_reducible exact LeO.none _)
   | (with_reducible refine LeO.ite ?_ ?_)
   | (with_reducible refine LeO.bind ?_ (fun _ => ?_))
   | exact ih0 _ _ _ _ _ _ _ _ _ _ _ _ _ _ _ _ _ _ _
   | exact ih1 _ _ _ _ _ _ _ _ _ _ _ _ _ _ _ _ _ _ _ _
   | exact field_value.mono _ _
   | exact LeO.none _
   | refine LeO.ite ?_ ?_
   | refine LeO.bind ?_ (fun _ => ?_)
  ·
   intro y0 y1 y2 y3 y4 y5 y6 y7 y8 y9 y10 y11 y12 y13 y14 y15 y16 y17 y18 y19
   unfold field_Frame.l0
   repeat' first
   | (with_reducible exact ih0 _ _ _ _ _ _ _ _ _ _ _ _ _ _ _ _ _ _ _)
   | (with_reducible exact ih1 _ _ _ _ _ _ _ _ _ _ _ _ _ _ _ _ _ _ _ _)
   | (with_reducible exact field_value.mono _ _)
   | (with_reducible exact LeO.refl _)
   | (with_reducible exact LeO.none _)
   | (with_reducible refine LeO.ite ?_ ?_)
   | (with_reducible refine LeO.bind ?_ (fun _ => ?_))
   | exact ih0 _ _ _ _ _ _ _ _ _ _ _ _ _ _ _ _ _ _ _
   | exact ih1 _ _ _ _ _ _ _ _ _ _ _ _ _ _ _ _ _ _ _ _
   | exact field_value.mono _ _
   | exact LeO.none _
   | refine LeO.ite ?_ ?_
   | refine LeO.bind ?_ (fun _ => ?_)
theorem field_Frame.mono : ∀ a0 k, LeO (field_Frame.f k a0) (field_Frame.f (k + 1) a0) := by
 intro a0 k
 obtain ⟨ih0, ih1⟩ := field_Frame.mono_l k
 unfold field_Frame.f
 repeat' first
   | (with_reducible exact ih0 _ _ _ _ _ _ _ _ _ _ _ _ _ _ _ _ _ _ _)
   | (with_reducible exact ih1 _ _ _ _ _ _ _ _ _ _ _ _ _ _ _ _ _ _ _ _)
   | (with_reducible exact field_value.mono _ _)
   | (with_reducible exact LeO.refl _)
   | (with_reducible exact LeO.none _)
   | (with_reducible refine LeO.ite ?_ ?_)
   | (with_reducible refine LeO.bind ?_ (fun _ => ?_))
   | exact ih0 _ _ _ _ _ _ _ _ _ _ _ _ _ _ _ _ _ _ _
   | exact ih1 _ _ _ _ _ _ _ _ _ _ _ _ _ _ _ _ _ _ _ _
   | exact field_value.mono _ _
   | exact LeO.none _
   | refine LeO.ite ?_ ?_
   | refine LeO.bind ?_ (fun _ => ?_)
def field_Frame.T9 : Bool × List (List Nat × List Nat) := (true, [([], []), ([0], [0]), ([1], [1]), ([], []), ([3], [3]), ([], []), ([5], [5]), ([], []), ([7], [7]), ([2, 4, 6, 8], [2, 4, 6, 8]), ([], []), ([10, 9, 2, 0, 1, 2, 3, 4, 5, 6, 7, 8, 9, 10], [9, 10])])
def field_Frame.B9 : List Nat := [0, 1, 3, 0, 8, 0, 32, 0, 128, 511, 0, 2047]
theorem field_Frame.tab9 : rtab .any (opsOf Try.f29 9) = field_Frame.T9 := by kernel_rfl
theorem field_Frame.bits9 : zqbk field_Frame.T9.2 field_Frame.B9 = true := by kernel_rfl
def field_Frame.T11 : Bool × List (List Nat × List Nat) := (true, [([], []), ([0], [0]), ([1], [1]), ([], []), ([3], [3]), ([4], [4]), ([2, 5], [2, 5]), ([0, 1, 2, 3, 4, 5, 6], []), ([7, 6, 5, 0, 1, 2, 3, 4, 5, 6], [6, 7])])
def field_Frame.B11 : List Nat := [0, 1, 3, 0, 8, 24, 63, 127, 255]
theorem field_Frame.tab11 : rtab .any (opsOf Try.f29 11) = field_Frame.T11 := by kernel_rfl
theorem field_Frame.bits11 : zqbk field_Frame.T11.2 field_Frame.B11 = true := by kernel_rfl
set_option maxHeartbeats 8000000 in
set_option maxRecDepth 100000 in
theorem field_Frame.calls (k : Nat) (A0 : Option Addr) (c0 : Nat) (l0 : List Int) (r1 : Int) (r2 : Bool) (r3 : Bool) (r4 : Int) (r5 : Int) (r6 : Int) (r7 : Int) (r8 : Int) (r9 : Int) (r10 : Int) (r11 : Int) (r12 : Int) (r13 : Int) (w : World) (hr0 : Kd.C (Kd.int .i64) w A0 l0.length l0) (hc0 : l0.length ≤ c0) (h : field_Frame.f k l0 = some (r1, r2, r3, r4, r5, r6, r7, r8, r9, r10, r11, r12, r13)) :
  Calls Try.prog 29 #[.slice A0 l0.length c0] w fun e w' => e = .returned (.tuple #[.agg #[.int .i64 r1, .bool r2, .bool r3, .int .i64 r4, .int .u8 r5, .int .u8 r6, .int .u8 r7, .int .u8 r8, .int .u8 r9, .int .u8 r10, .int .u8 r11, .int .u8 r12], .int .i64 r13]) ∧ Below w.heap.size w w' := by
 have hu24 := Try.underlying24
 have hu72 := Try.underlying72
 have HR0 := Aside0.mk hr0
 have HC0 := Aside0.mk hc0
 clear hr0 hc0
 have HB := Aside0.mk (Below.refl w.heap.size w)
 have H : ((field_Ahead.f l0).bind fun bt189 => (if bt189.2 = 0 then (if (l0.length : Int) < bt189.1 then (some (0, false, false, 0, 0, 0, 0, 0, 0, 0, 0, 0, 13)) else (if 0 < (l0.length : Int) then (if (rd l0 0) = 0 then ((field_read.f l0).bind fun bt192 => (if 12 ≤ (l0.length : Int) then ((field_value.f k ((l0.take 12).drop 1)).bind fun t200 => (if bt192.1 = true then (if 32 ≤ (l0.length : Int) then ((field_value.f k ((l0.take 32).drop 14)).bind fun t203 => (field_Frame.j0 k l0 bt189.1 bt192.1 bt192.2.1 bt192.2.2.1 bt192.2.2.2.1 bt192.2.2.2.2.1 (Go.bits .or .i64 (wrap64 (t200 * 262144)) t203) bt192.1 bt192.2.1 bt192.2.2.2.2.1 0 0 0 0 0 0 0 0)) else (none)) else (field_Frame.j0 k l0 bt189.1 bt192.1 bt192.2.1 bt192.2.2.1 bt192.2.2.2.1 bt192.2.2.2.2.1 t200 bt192.1 bt192.2.1 bt192.2.2.2.2.1 0 0 0 0 0 0 0 0))) else (none))) else (some (0, false, false, 0, 0, 0, 0, 0, 0, 0, 0, 0, 11))) else (none))) else (some (0, false, false, 0, 0, 0, 0, 0, 0, 0, 0, 0, bt189.2)))) = some (r1, r2, r3, r4, r5, r6, r7, r8, r9, r10, r11, r12, r13) := h
 clear h
 replace H := Option.bind_eq_some_iff.mp H
 obtain ⟨⟨t189, t190⟩, A20, H⟩ := H
 replace H : (if t190 = 0 then (if (l0.length : Int) < t189 then (some (0, false, false, 0, 0, 0, 0, 0, 0, 0, 0, 0, 13)) else (if 0 < (l0.length : Int) then (if (rd l0 0) = 0 then ((field_read.f l0).bind fun bt192 => (if 12 ≤ (l0.length : Int) then ((field_value.f k ((l0.take 12).drop 1)).bind fun t200 => (if bt192.1 = true then (if 32 ≤ (l0.length : Int) then ((field_value.f k ((l0.take 32).drop 14)).bind fun t203 => (field_Frame.j0 k l0 t189 bt192.1 bt192.2.1 bt192.2.2.1 bt192.2.2.2.1 bt192.2.2.2.2.1 (Go.bits .or .i64 (wrap64 (t200 * 262144)) t203) bt192.1 bt192.2.1 bt192.2.2.2.2.1 0 0 0 0 0 0 0 0)) else (none)) else (field_Frame.j0 k l0 t189 bt192.1 bt192.2.1 bt192.2.2.1 bt192.2.2.2.1 bt192.2.2.2.2.1 t200 bt192.1 bt192.2.1 bt192.2.2.2.2.1 0 0 0 0 0 0 0 0))) else (none))) else (some (0, false, false, 0, 0, 0, 0, 0, 0, 0, 0, 0, 11))) else (none))) else (some (0, false, false, 0, 0, 0, 0, 0, 0, 0, 0, 0, t190))) = some (r1, r2, r3, r4, r5, r6, r7, r8, r9, r10, r11, r12, r13) := H
 have A2 := Aside0.mk A20
 clear A20
 by_cases c3 : t190 = 0
 ·
  rw [if_pos c3] at H
  have c3b0 : (t190 == 0) = true := beq_iff_eq.mpr c3
  have c3b1 : (t190 != 0) = false := bne_eq_false_iff_eq.mpr c3
  clear c3
  by_cases c4 : (l0.length : Int) < t189
  ·
   rw [if_pos c4] at H
   have c4b0 : decide ((l0.length : Int) < t189) = true := decide_eq_true c4
   clear c4
   simp only [Option.some.injEq, Prod.mk.injEq] at H
   obtain ⟨rfl, rfl, rfl, rfl, rfl, rfl, rfl, rfl, rfl, rfl, rfl, rfl, rfl⟩ := H
   go_enter Try.func29, Try.ntmps29
   go_wp2_with (first | ((with_reducible refine zqar (N := 2) rfl ?_); refine zqav ?hg (N := 2) ?hd (cs := #[.int .i64 0, .bool false, .bool false, .int .i64 0, .int .u8 0, .int .u8 0, .int .u8 0, .int .u8 0, .int .u8 0, .int .u8 0, .int .u8 0, .int .u8 0]) (t := 24) ?hr ?_; (case hd => rfl); (case hg => rfl); (case hr => first | (go_simp; done) | (go_simp; rfl)); intro gb188 hg w5 hbox hb; have n0_ := Aside0.mk (zqak (by repeat (with_reducible first | exact HB.out | apply zqad | apply zqac | apply zqae)) hb); have n1_ := Aside0.mk (hbox); have n2_ := Aside0.mk ((by rw [hg]; exact (zqaj (by repeat (with_reducible first | exact HB.out | apply zqad | apply zqac | apply zqae))) : w.heap.size ≤ gb188)); have n3_ := Aside0.mk ((by rw [hg]; exact (zqaj (by repeat (with_reducible first | exact HB.out | apply zqad | apply zqac | apply zqae))) : w.heap.size ≤ gb188)); clear HB; have HB := n0_; have BK188 := n1_; have GW188 := n2_; have GE188 := n3_; clear n0_ n1_ n2_ n3_; clear hb hbox hg) | ((with_reducible refine zqal (f := 24) rfl ?_); refine goesL_ (some 12) rfl rfl Try.func24 (by kernel_rfl) rfl #[.slice A0 l0.length c0] rfl (by (try simp only [List.map_toArray, List.map_cons, List.map_nil]); first | done | rfl | (simp only [List.length_drop, List.length_take]; rfl)) ?_; (with_reducible refine (field_Ahead.calls _ _ l0 t189 t190 _ ?side1 ?side2 A2.out).mono ?_); (case side1 => repeat (first | exact (Kd.C_below HR0.out HB.out) | (with_reducible refine Kd.C_alloc ?_ _) | (with_reducible refine Kd.C_drewN ?_ _) | (with_reducible refine Kd.C_drew ?_))); (case side2 => exact HC0.out); rintro e w6 ⟨rfl, hb⟩; refine ⟨_, rfl, ?_⟩; have n0_ := Aside0.mk (zqam (g := gb188) (o := .cells #[.int .i64 0, .bool false, .bool false, .int .i64 0, .int .u8 0, .int .u8 0, .int .u8 0, .int .u8 0, .int .u8 0, .int .u8 0, .int .u8 0, .int .u8 0] 24 (0, 0)) (by (with_reducible repeat (first | refine zqag ?_ _ | refine zqai ?_ | refine zqaf ?_ _)); exact BK188.out) hb); have n1_ := Aside0.mk (zqak (by repeat (with_reducible first | exact HB.out | apply zqad | apply zqac | apply zqae | refine zqah ?_ GE188.out)) hb); clear BK188; clear HB; have BK188 := n0_; have HB := n1_; clear n0_ n1_; (try clear hb); (try clear hb2); (try clear hk); (try clear hi); have hcz7_0 : w6.cell? ⟨gb188, 0, none⟩ = some (.int .i64 0) := (zqab BK188.out 0).trans rfl; have hcz7_1 : w6.cell? ⟨gb188, 1, none⟩ = some (.bool false) := (zqab BK188.out 1).trans rfl; have hcz7_2 : w6.cell? ⟨gb188, 2, none⟩ = some (.bool false) := (zqab BK188.out 2).trans rfl; have hcz7_3 : w6.cell? ⟨gb188, 3, none⟩ = some (.int .i64 0) := (zqab BK188.out 3).trans rfl; have hcz7_4 : w6.cell? ⟨gb188, 4, none⟩ = some (.int .u8 0) := (zqab BK188.out 4).trans rfl; have hcz7_5 : w6.cell? ⟨gb188, 5, none⟩ = some (.int .u8 0) := (zqab BK188.out 5).trans rfl; have hcz7_6 : w6.cell? ⟨gb188, 6, none⟩ = some (.int .u8 0) := (zqab BK188.out 6).trans rfl; have hcz7_7 : w6.cell? ⟨gb188, 7, none⟩ = some (.int .u8 0) := (zqab BK188.out 7).trans rfl; have hcz7_8 : w6.cell? ⟨gb188, 8, none⟩ = some (.int .u8 0) := (zqab BK188.out 8).trans rfl; have hcz7_9 : w6.cell? ⟨gb188, 9, none⟩ = some (.int .u8 0) := (zqab BK188.out 9).trans rfl; have hcz7_10 : w6.cell? ⟨gb188, 10, none⟩ = some (.int .u8 0) := (zqab BK188.out 10).trans rfl; have hcz7_11 : w6.cell? ⟨gb188, 11, none⟩ = some (.int .u8 0) := (zqab BK188.out 11).trans rfl; have hfz7_0 := zqaa BK188.out 0; have hfz7_1 := zqaa BK188.out 1; have hfz7_2 := zqaa BK188.out 2; have hfz7_3 := zqaa BK188.out 3; have hfz7_4 := zqaa BK188.out 4; have hfz7_5 := zqaa BK188.out 5; have hfz7_6 := zqaa BK188.out 6; have hfz7_7 := zqaa BK188.out 7; have hfz7_8 := zqaa BK188.out 8; have hfz7_9 := zqaa BK188.out 9; have hfz7_10 := zqaa BK188.out 10; have hfz7_11 := zqaa BK188.out 11))
   refine bodyPost_ret (zqbh rfl _ _ gb188 24 #[.int .i64 0, .bool false, .bool false, .int .i64 0, .int .u8 0, .int .u8 0, .int .u8 0, .int .u8 0, .int .u8 0, .int .u8 0, .int .u8 0, .int .u8 0] (0, 0) _ rfl (by (with_reducible repeat (first | refine zqag ?_ _ | refine zqai ?_ | refine zqaf ?_ _)); refine zqan (cs := #[.int .i64 0, .bool false, .bool false, .int .i64 0, .int .u8 0, .int .u8 0, .int .u8 0, .int .u8 0, .int .u8 0, .int .u8 0, .int .u8 0, .int .u8 0]) ?_ 11 _ rfl; (with_reducible repeat (first | refine zqag ?_ _ | refine zqai ?_ | refine zqaf ?_ _)); refine zqan (cs := #[.int .i64 0, .bool false, .bool false, .int .i64 0, .int .u8 0, .int .u8 0, .int .u8 0, .int .u8 0, .int .u8 0, .int .u8 0, .int .u8 0, .int .u8 0]) ?_ 10 _ rfl; (with_reducible repeat (first | refine zqag ?_ _ | refine zqai ?_ | refine zqaf ?_ _)); refine zqan (cs := #[.int .i64 0, .bool false, .bool false, .int .i64 0, .int .u8 0, .int .u8 0, .int .u8 0, .int .u8 0, .int .u8 0, .int .u8 0, .int .u8 0, .int .u8 0]) ?_ 9 _ rfl; (with_reducible repeat (first | refine zqag ?_ _ | refine zqai ?_ | refine zqaf ?_ _)); refine zqan (cs := #[.int .i64 0, .bool false, .bool false, .int .i64 0, .int .u8 0, .int .u8 0, .int .u8 0, .int .u8 0, .int .u8 0, .int .u8 0, .int .u8 0, .int .u8 0]) ?_ 8 _ rfl; (with_reducible repeat (first | refine zqag ?_ _ | refine zqai ?_ | refine zqaf ?_ _)); refine zqan (cs := #[.int .i64 0, .bool false, .bool false, .int .i64 0, .int .u8 0, .int .u8 0, .int .u8 0, .int .u8 0, .int .u8 0, .int .u8 0, .int .u8 0, .int .u8 0]) ?_ 7 _ rfl; (with_reducible repeat (first | refine zqag ?_ _ | refine zqai ?_ | refine zqaf ?_ _)); refine zqan (cs := #[.int .i64 0, .bool false, .bool false, .int .i64 0, .int .u8 0, .int .u8 0, .int .u8 0, .int .u8 0, .int .u8 0, .int .u8 0, .int .u8 0, .int .u8 0]) ?_ 6 _ rfl; (with_reducible repeat (first | refine zqag ?_ _ | refine zqai ?_ | refine zqaf ?_ _)); refine zqan (cs := #[.int .i64 0, .bool false, .bool false, .int .i64 0, .int .u8 0, .int .u8 0, .int .u8 0, .int .u8 0, .int .u8 0, .int .u8 0, .int .u8 0, .int .u8 0]) ?_ 5 _ rfl; (with_reducible repeat (first | refine zqag ?_ _ | refine zqai ?_ | refine zqaf ?_ _)); refine zqan (cs := #[.int .i64 0, .bool false, .bool false, .int .i64 0, .int .u8 0, .int .u8 0, .int .u8 0, .int .u8 0, .int .u8 0, .int .u8 0, .int .u8 0, .int .u8 0]) ?_ 4 _ rfl; (with_reducible repeat (first | refine zqag ?_ _ | refine zqai ?_ | refine zqaf ?_ _)); refine zqan (cs := #[.int .i64 0, .bool false, .bool false, .int .i64 0, .int .u8 0, .int .u8 0, .int .u8 0, .int .u8 0, .int .u8 0, .int .u8 0, .int .u8 0, .int .u8 0]) ?_ 3 _ rfl; (with_reducible repeat (first | refine zqag ?_ _ | refine zqai ?_ | refine zqaf ?_ _)); refine zqan (cs := #[.int .i64 0, .bool false, .bool false, .int .i64 0, .int .u8 0, .int .u8 0, .int .u8 0, .int .u8 0, .int .u8 0, .int .u8 0, .int .u8 0, .int .u8 0]) ?_ 2 _ rfl; (with_reducible repeat (first | refine zqag ?_ _ | refine zqai ?_ | refine zqaf ?_ _)); refine zqan (cs := #[.int .i64 0, .bool false, .bool false, .int .i64 0, .int .u8 0, .int .u8 0, .int .u8 0, .int .u8 0, .int .u8 0, .int .u8 0, .int .u8 0, .int .u8 0]) ?_ 1 _ rfl; (with_reducible repeat (first | refine zqag ?_ _ | refine zqai ?_ | refine zqaf ?_ _)); refine zqan (cs := #[.int .i64 0, .bool false, .bool false, .int .i64 0, .int .u8 0, .int .u8 0, .int .u8 0, .int .u8 0, .int .u8 0, .int .u8 0, .int .u8 0, .int .u8 0]) ?_ 0 _ rfl; (with_reducible repeat (first | refine zqag ?_ _ | refine zqai ?_ | refine zqaf ?_ _)); exact BK188.out) Try.underlying24 rfl (by kernel_rfl)) rfl ?_
   exact ⟨by first | rfl | (simp [errW_none, errW_some] <;> rfl) | (simp [*, errW_none, errW_some] <;> rfl), by repeat (with_reducible first | exact HB.out | apply zqad | apply zqac | apply zqae | refine zqah ?_ GE188.out)⟩
  ·
   rw [if_neg c4] at H
   have c4b0 : decide ((l0.length : Int) < t189) = false := decide_eq_false c4
   clear c4
   by_cases c8 : 0 < (l0.length : Int)
   ·
    rw [if_pos c8] at H
    have c8b0 : decide (0 < (l0.length : Int)) = true := decide_eq_true c8
    have c8b1 : decide (0 < l0.length) = true := decide_eq_true (by omega)
    clear c8
    by_cases c9 : (rd l0 0) = 0
    ·
     rw [if_pos c9] at H
     have c9b0 : ((rd l0 0) == 0) = true := beq_iff_eq.mpr c9
     have c9b1 : ((rd l0 0) != 0) = false := bne_eq_false_iff_eq.mpr c9
     clear c9
     replace H := Option.bind_eq_some_iff.mp H
     obtain ⟨⟨t192, t193, t194, t195, t196, t197⟩, A100, H⟩ := H
     replace H : (if 12 ≤ (l0.length : Int) then ((field_value.f k ((l0.take 12).drop 1)).bind fun t200 => (if t192 = true then (if 32 ≤ (l0.length : Int) then ((field_value.f k ((l0.take 32).drop 14)).bind fun t203 => (field_Frame.j0 k l0 t189 t192 t193 t194 t195 t196 (Go.bits .or .i64 (wrap64 (t200 * 262144)) t203) t192 t193 t196 0 0 0 0 0 0 0 0)) else (none)) else (field_Frame.j0 k l0 t189 t192 t193 t194 t195 t196 t200 t192 t193 t196 0 0 0 0 0 0 0 0))) else (none)) = some (r1, r2, r3, r4, r5, r6, r7, r8, r9, r10, r11, r12, r13) := H
     have A10 := Aside0.mk A100
     clear A100
     by_cases c11 : 12 ≤ (l0.length : Int)
     ·
      rw [if_pos c11] at H
      have c11b0 := eq_true c11
      have c11b1 : decide (12 ≤ (l0.length : Int)) = true := decide_eq_true c11
      clear c11
      replace H := Option.bind_eq_some_iff.mp H
      obtain ⟨t200, A120, H⟩ := H
      replace H : (if t192 = true then (if 32 ≤ (l0.length : Int) then ((field_value.f k ((l0.take 32).drop 14)).bind fun t203 => (field_Frame.j0 k l0 t189 t192 t193 t194 t195 t196 (Go.bits .or .i64 (wrap64 (t200 * 262144)) t203) t192 t193 t196 0 0 0 0 0 0 0 0)) else (none)) else (field_Frame.j0 k l0 t189 t192 t193 t194 t195 t196 t200 t192 t193 t196 0 0 0 0 0 0 0 0)) = some (r1, r2, r3, r4, r5, r6, r7, r8, r9, r10, r11, r12, r13) := H
      have A12 := Aside0.mk A120
      clear A120
      have HC13 := Aside0.mk H
      clear H
      go_enter Try.func29, Try.ntmps29
      try go_wp2_with (first | ((with_reducible refine zqar (N := 2) rfl ?_); refine zqav ?hg (N := 2) ?hd (cs := #[.int .i64 0, .bool false, .bool false, .int .i64 0, .int .u8 0, .int .u8 0, .int .u8 0, .int .u8 0, .int .u8 0, .int .u8 0, .int .u8 0, .int .u8 0]) (t := 24) ?hr ?_; (case hd => rfl); (case hg => rfl); (case hr => first | (go_simp; done) | (go_simp; rfl)); intro gb188 hg w14 hbox hb; have n0_ := Aside0.mk (zqak (by repeat (with_reducible first | exact HB.out | apply zqad | apply zqac | apply zqae)) hb); have n1_ := Aside0.mk (hbox); have n2_ := Aside0.mk ((by rw [hg]; exact (zqaj (by repeat (with_reducible first | exact HB.out | apply zqad | apply zqac | apply zqae))) : w.heap.size ≤ gb188)); have n3_ := Aside0.mk ((by rw [hg]; exact (zqaj (by repeat (with_reducible first | exact HB.out | apply zqad | apply zqac | apply zqae))) : w.heap.size ≤ gb188)); clear HB; have HB := n0_; have BK188 := n1_; have GW188 := n2_; have GE188 := n3_; clear n0_ n1_ n2_ n3_; clear hb hbox hg) | ((with_reducible refine zqal (f := 24) rfl ?_); refine goesL_ (some 12) rfl rfl Try.func24 (by kernel_rfl) rfl #[.slice A0 l0.length c0] rfl (by (try simp only [List.map_toArray, List.map_cons, List.map_nil]); first | done | rfl | (simp only [List.length_drop, List.length_take]; rfl)) ?_; (with_reducible refine (field_Ahead.calls _ _ l0 t189 t190 _ ?side1 ?side2 A2.out).mono ?_); (case side1 => repeat (first | exact (Kd.C_below HR0.out HB.out) | (with_reducible refine Kd.C_alloc ?_ _) | (with_reducible refine Kd.C_drewN ?_ _) | (with_reducible refine Kd.C_drew ?_))); (case side2 => exact HC0.out); rintro e w15 ⟨rfl, hb⟩; refine ⟨_, rfl, ?_⟩; have n0_ := Aside0.mk (zqam (g := gb188) (o := .cells #[.int .i64 0, .bool false, .bool false, .int .i64 0, .int .u8 0, .int .u8 0, .int .u8 0, .int .u8 0, .int .u8 0, .int .u8 0, .int .u8 0, .int .u8 0] 24 (0, 0)) (by (with_reducible repeat (first | refine zqag ?_ _ | refine zqai ?_ | refine zqaf ?_ _)); exact BK188.out) hb); have n1_ := Aside0.mk (zqak (by repeat (with_reducible first | exact HB.out | apply zqad | apply zqac | apply zqae | refine zqah ?_ GE188.out)) hb); clear BK188; clear HB; have BK188 := n0_; have HB := n1_; clear n0_ n1_; (try clear hb); (try clear hb2); (try clear hk); (try clear hi); have p191 : 0 ≤ (0 : Int) := (by omega); have q191 : 0 < (l0.length : Int) := of_decide_eq_true (by first | (with_reducible assumption) | assumption); obtain ⟨ad191, e191, hx191_0⟩ := Kd.at_int HR0.out 0 p191 q191; cases e191; have qi191 : (0 < l0.length) = True := eq_true (by omega); (try rw [show ((0 : Int)).toNat = 0 from rfl] at hx191_0); (try rw [Addr.add_zero'] at hx191_0); replace hx191_0 := (HB.out.cell (World.block_lt_of_cell? w _ hx191_0)).trans hx191_0; replace p191 := eq_true p191; replace q191 := eq_true q191) | ((with_reducible refine zqal (f := 54) rfl ?_); refine goesL_ (some 34) rfl rfl Try.func54 (by kernel_rfl) rfl #[.slice (some ad191) l0.length c0] rfl (by (try simp only [List.map_toArray, List.map_cons, List.map_nil]); first | done | rfl | (simp only [List.length_drop, List.length_take]; rfl)) ?_; (with_reducible refine (field_read.calls _ _ l0 t192 t193 t194 t195 t196 t197 _ ?side1 ?side2 A10.out).mono ?_); (case side1 => repeat (first | exact (Kd.C_below HR0.out HB.out) | (with_reducible refine Kd.C_alloc ?_ _) | (with_reducible refine Kd.C_drewN ?_ _) | (with_reducible refine Kd.C_drew ?_))); (case side2 => exact HC0.out); rintro e w16 ⟨rfl, hb⟩; refine ⟨_, rfl, ?_⟩; have n0_ := Aside0.mk (zqam (g := gb188) (o := .cells #[.int .i64 0, .bool false, .bool false, .int .i64 0, .int .u8 0, .int .u8 0, .int .u8 0, .int .u8 0, .int .u8 0, .int .u8 0, .int .u8 0, .int .u8 0] 24 (0, 0)) (by (with_reducible repeat (first | refine zqag ?_ _ | refine zqai ?_ | refine zqaf ?_ _)); exact BK188.out) hb); have n1_ := Aside0.mk (zqak (by repeat (with_reducible first | exact HB.out | apply zqad | apply zqac | apply zqae | refine zqah ?_ GE188.out)) hb); clear BK188; clear HB; have BK188 := n0_; have HB := n1_; clear n0_ n1_; (try clear hb); (try clear hb2); (try clear hk); (try clear hi)) | ((with_reducible refine zqar (N := 6) rfl ?_); refine zqav ?hg (N := 6) ?hd (cs := #[.bool false, .bool false, .int .i64 0, .int .i64 0, .int .i64 0]) (t := 72) ?hr ?_; (case hd => rfl); (case hg => rfl); (case hr => first | (go_simp; done) | (go_simp; rfl)); intro gb198 hg w17 hbox hb; have n0_ := Aside0.mk (zqam (g := gb188) (o := .cells #[.int .i64 0, .bool false, .bool false, .int .i64 0, .int .u8 0, .int .u8 0, .int .u8 0, .int .u8 0, .int .u8 0, .int .u8 0, .int .u8 0, .int .u8 0] 24 (0, 0)) (by (with_reducible repeat (first | refine zqag ?_ _ | refine zqai ?_ | refine zqaf ?_ _)); exact BK188.out) hb); have n1_ := Aside0.mk (zqak (by repeat (with_reducible first | exact HB.out | apply zqad | apply zqac | apply zqae | refine zqah ?_ GE188.out)) hb); have n2_ := Aside0.mk (hbox); have n3_ := Aside0.mk ((by rw [hg]; exact (zqaj (by repeat (with_reducible first | exact HB.out | apply zqad | apply zqac | apply zqae | refine zqah ?_ GE188.out))) : w.heap.size ≤ gb198)); have n4_ := Aside0.mk ((by rw [hg]; exact (zqaj (by repeat (with_reducible first | exact HB.out | apply zqad | apply zqac | apply zqae | refine zqah ?_ GE188.out))) : w.heap.size ≤ gb198)); have n5_ := Aside0.mk ((by rw [hg]; exact Nat.ne_of_lt (blk_lt (g := gb188) (o := .cells #[.int .i64 0, .bool false, .bool false, .int .i64 0, .int .u8 0, .int .u8 0, .int .u8 0, .int .u8 0, .int .u8 0, .int .u8 0, .int .u8 0, .int .u8 0] 24 (0, 0)) (by (with_reducible repeat (first | refine zqag ?_ _ | refine zqai ?_ | refine zqaf ?_ _)); exact BK188.out)) : gb188 ≠ gb198)); have n6_ := Aside0.mk ((by rw [hg]; exact Nat.ne_of_gt (blk_lt (g := gb188) (o := .cells #[.int .i64 0, .bool false, .bool false, .int .i64 0, .int .u8 0, .int .u8 0, .int .u8 0, .int .u8 0, .int .u8 0, .int .u8 0, .int .u8 0, .int .u8 0] 24 (0, 0)) (by (with_reducible repeat (first | refine zqag ?_ _ | refine zqai ?_ | refine zqaf ?_ _)); exact BK188.out)) : gb198 ≠ gb188)); clear BK188; clear HB; have BK188 := n0_; have HB := n1_; have BK198 := n2_; have GW198 := n3_; have GE198 := n4_; have NB188_198 := n5_; have NB198_188 := n6_; clear n0_ n1_ n2_ n3_ n4_ n5_ n6_; clear hb hbox hg; have hnb18 := NB198_188.out; have hnc18 := NB188_198.out; have hcz19_0 : w17.cell? ⟨gb198, 0, none⟩ = some (.bool false) := (zqab BK198.out 0).trans rfl; have hcz19_1 : w17.cell? ⟨gb198, 1, none⟩ = some (.bool false) := (zqab BK198.out 1).trans rfl; have hcz19_2 : w17.cell? ⟨gb198, 2, none⟩ = some (.int .i64 0) := (zqab BK198.out 2).trans rfl; have hcz19_3 : w17.cell? ⟨gb198, 3, none⟩ = some (.int .i64 0) := (zqab BK198.out 3).trans rfl; have hcz19_4 : w17.cell? ⟨gb198, 4, none⟩ = some (.int .i64 0) := (zqab BK198.out 4).trans rfl; have hfz19_0 := zqaa BK198.out 0; have hfz19_1 := zqaa BK198.out 1; have hfz19_2 := zqaa BK198.out 2; have hfz19_3 := zqaa BK198.out 3; have hfz19_4 := zqaa BK198.out 4))
      have n0_ : Aside0 ((((((w17.setCell ⟨gb198, 0, none⟩ (.bool t192)).setCell ⟨gb198, 1, none⟩ (.bool t193)).setCell ⟨gb198, 2, none⟩ (.int .i64 t194)).setCell ⟨gb198, 3, none⟩ (.int .i64 t195)).setCell ⟨gb198, 4, none⟩ (.int .i64 t196)).heap[gb188]? = some (.cells #[.int .i64 0, .bool false, .bool false, .int .i64 0, .int .u8 0, .int .u8 0, .int .u8 0, .int .u8 0, .int .u8 0, .int .u8 0, .int .u8 0, .int .u8 0] 24 (0, 0))) := ⟨by (with_reducible repeat (first | refine zqag ?_ _ | refine zqai ?_ | refine zqaf ?_ _)); refine zqas ?_ NB188_198.out _; (with_reducible repeat (first | refine zqag ?_ _ | refine zqai ?_ | refine zqaf ?_ _)); refine zqas ?_ NB188_198.out _; (with_reducible repeat (first | refine zqag ?_ _ | refine zqai ?_ | refine zqaf ?_ _)); refine zqas ?_ NB188_198.out _; (with_reducible repeat (first | refine zqag ?_ _ | refine zqai ?_ | refine zqaf ?_ _)); refine zqas ?_ NB188_198.out _; (with_reducible repeat (first | refine zqag ?_ _ | refine zqai ?_ | refine zqaf ?_ _)); refine zqas ?_ NB188_198.out _; (with_reducible repeat (first | refine zqag ?_ _ | refine zqai ?_ | refine zqaf ?_ _)); exact BK188.out⟩
      have n1_ : Aside0 ((((((w17.setCell ⟨gb198, 0, none⟩ (.bool t192)).setCell ⟨gb198, 1, none⟩ (.bool t193)).setCell ⟨gb198, 2, none⟩ (.int .i64 t194)).setCell ⟨gb198, 3, none⟩ (.int .i64 t195)).setCell ⟨gb198, 4, none⟩ (.int .i64 t196)).heap[gb198]? = some (.cells #[.bool t192, .bool t193, .int .i64 t194, .int .i64 t195, .int .i64 t196] 72 (0, 0))) := ⟨by (with_reducible repeat (first | refine zqag ?_ _ | refine zqai ?_ | refine zqaf ?_ _)); refine zqan (cs := #[.bool t192, .bool t193, .int .i64 t194, .int .i64 t195, .int .i64 0]) ?_ 4 _ rfl; (with_reducible repeat (first | refine zqag ?_ _ | refine zqai ?_ | refine zqaf ?_ _)); refine zqan (cs := #[.bool t192, .bool t193, .int .i64 t194, .int .i64 0, .int .i64 0]) ?_ 3 _ rfl; (with_reducible repeat (first | refine zqag ?_ _ | refine zqai ?_ | refine zqaf ?_ _)); refine zqan (cs := #[.bool t192, .bool t193, .int .i64 0, .int .i64 0, .int .i64 0]) ?_ 2 _ rfl; (with_reducible repeat (first | refine zqag ?_ _ | refine zqai ?_ | refine zqaf ?_ _)); refine zqan (cs := #[.bool t192, .bool false, .int .i64 0, .int .i64 0, .int .i64 0]) ?_ 1 _ rfl; (with_reducible repeat (first | refine zqag ?_ _ | refine zqai ?_ | refine zqaf ?_ _)); refine zqan (cs := #[.bool false, .bool false, .int .i64 0, .int .i64 0, .int .i64 0]) ?_ 0 _ rfl; (with_reducible repeat (first | refine zqag ?_ _ | refine zqai ?_ | refine zqaf ?_ _)); exact BK198.out⟩
      have n2_ : Aside0 (Below w.heap.size w (((((w17.setCell ⟨gb198, 0, none⟩ (.bool t192)).setCell ⟨gb198, 1, none⟩ (.bool t193)).setCell ⟨gb198, 2, none⟩ (.int .i64 t194)).setCell ⟨gb198, 3, none⟩ (.int .i64 t195)).setCell ⟨gb198, 4, none⟩ (.int .i64 t196))) := ⟨by repeat (with_reducible first | exact HB.out | apply zqad | apply zqac | apply zqae | refine zqah ?_ GE188.out | refine zqah ?_ GE198.out)⟩
      (try clear BK188)
      (try clear BK198)
      (try clear HB)
      generalize (((((w17.setCell ⟨gb198, 0, none⟩ (.bool t192)).setCell ⟨gb198, 1, none⟩ (.bool t193)).setCell ⟨gb198, 2, none⟩ (.int .i64 t194)).setCell ⟨gb198, 3, none⟩ (.int .i64 t195)).setCell ⟨gb198, 4, none⟩ (.int .i64 t196)) = w20 at n0_ n1_ n2_ ⊢
      have BK188 := n0_
      have BK198 := n1_
      have HB := n2_
      clear n0_ n1_ n2_
      have n0_ := Aside0.mk (zqai BK188.out)
      have n1_ := Aside0.mk (zqai BK198.out)
      have n2_ := Aside0.mk (zqae HB.out)
      clear BK188
      clear BK198
      clear HB
      have BK188 := n0_
      have BK198 := n1_
      have HB := n2_
      clear n0_ n1_ n2_
      obtain ⟨i022, hi022, _, hsz22, _⟩ := info_parts info3
      obtain ⟨A22, hcut22, hA22, hC22⟩ := print_mid_of (P := Try.prog) (Value.int .i64) 0 25 3 .i64 .i64 Try.underlying25 hi022 hsz22 (some ad191) c0 l0 1 12 (by omega) (by first | omega | exact of_decide_eq_true (by first | (with_reducible assumption) | assumption)) (of_decide_eq_true (by first | (with_reducible assumption) | assumption)) HC0.out
      have HR199 := Aside0.mk (Kd.C_of_reads (h1 := fun _ => rfl) (hA22 _ (Kd.reads_of_C HR0.out)))
      have HC199 := Aside0.mk hC22
      clear hA22 hC22 hi022 hsz22
      refine start_ (n := 12) (S := fun w' => w'.cell? ⟨gb198, 0, none⟩ = some (.bool t192) ∧ w'.cell? ⟨gb198, 1, none⟩ = some (.bool t193) ∧ w'.cell? ⟨gb198, 2, none⟩ = some (.int .i64 t194) ∧ w'.cell? ⟨gb198, 3, none⟩ = some (.int .i64 t195) ∧ w'.cell? ⟨gb198, 4, none⟩ = some (.int .i64 t196)) (ds := []) #[false, false, false, false, false, false, false, false, false, false, false, false] (by kernel_rfl) rfl rfl ⟨(zqab BK198.out 0).trans rfl, (zqab BK198.out 1).trans rfl, (zqab BK198.out 2).trans rfl, (zqab BK198.out 3).trans rfl, (zqab BK198.out 4).trans rfl⟩ (fun hHeld => ?_); refine with_tabW field_Frame.tab9 field_Frame.bits9 (fun HT_ HW_ => ?_)
      generalize w20.drew = w21 at BK188 BK198 HB HR199 hHeld ⊢
      refine pure_ (i := 0) (N := some 37) (v := ?_) (a' := ?_) #[true, false, false, false, false, false, false, false, false, false, false, false] rfl rfl (any_of HT_.out (by kernel_rfl)) (fun _ _ _ h => h) (Or.inl ⟨by rfl, ?_⟩) ?_ ?_
      rotate_left
      ·
       intro w'
       go_simp
       with_reducible rfl
      rotate_left
      ·
       simp only [Act.put, List.setIfInBounds_toArray, List.set_cons_zero, List.set_cons_succ, i64_w, i32_w]
       rfl
      refine pure_ (i := 1) (N := some 38) (v := ?_) (a' := ?_) #[true, true, false, false, false, false, false, false, false, false, false, false] rfl rfl (any_of HT_.out (by kernel_rfl)) (fun _ _ _ h => h) (Or.inl ⟨by rfl, ?_⟩) ?_ ?_
      rotate_left
      ·
       intro w'
       go_simp
       with_reducible rfl
      rotate_left
      ·
       simp only [Act.put, List.setIfInBounds_toArray, List.set_cons_zero, List.set_cons_succ, i64_w, i32_w]
       rfl
      refine pure_ (i := 3) (N := some 40) (v := ?_) (a' := ?_) #[true, true, false, true, false, false, false, false, false, false, false, false] rfl rfl (any_of HT_.out (by kernel_rfl)) (fun _ _ _ h => h) (Or.inl ⟨by rfl, ?_⟩) ?_ ?_
      rotate_left
      ·
       intro w'
       go_simp
       with_reducible rfl
      rotate_left
      ·
       simp only [Act.put, List.setIfInBounds_toArray, List.set_cons_zero, List.set_cons_succ, i64_w, i32_w]
       rfl
      refine pure_ (i := 5) (N := some 42) (v := ?_) (a' := ?_) #[true, true, false, true, false, true, false, false, false, false, false, false] rfl rfl (any_of HT_.out (by kernel_rfl)) (fun _ _ _ h => h) (Or.inl ⟨by rfl, ?_⟩) ?_ ?_
      rotate_left
      ·
       intro w'
       go_simp
       with_reducible rfl
      rotate_left
      ·
       simp only [Act.put, List.setIfInBounds_toArray, List.set_cons_zero, List.set_cons_succ, i64_w, i32_w]
       rfl
      refine pure_ (i := 7) (N := some 44) (v := ?_) (a' := ?_) #[true, true, false, true, false, true, false, true, false, false, false, false] rfl rfl (any_of HT_.out (by kernel_rfl)) (fun _ _ _ h => h) (Or.inl ⟨by rfl, ?_⟩) ?_ ?_
      rotate_left
      ·
       intro w'
       go_simp
       with_reducible rfl
      rotate_left
      ·
       simp only [Act.put, List.setIfInBounds_toArray, List.set_cons_zero, List.set_cons_succ, i64_w, i32_w]
       rfl
      refine take_ (i := 4) (N := some 41) (v := ?_) (a' := ?_) #[true, true, false, true, true, true, false, true, false, false, false, false] rfl rfl (take_ofW HT_.out HW_.out (by kernel_rfl)) (fun _ _ _ h => h) (Or.inl ⟨by rfl, ?_⟩) hHeld ?_ ?_
      rotate_left
      ·
       rintro w' ⟨s0, s1, s2, s3, s4⟩
       go_simp
       with_reducible rfl
      rotate_left
      ·
       simp only [Act.put, List.setIfInBounds_toArray, List.set_cons_zero, List.set_cons_succ, i64_w, i32_w]
       rfl
      refine take_ (i := 6) (N := some 43) (v := ?_) (a' := ?_) #[true, true, false, true, true, true, true, true, false, false, false, false] rfl rfl (take_ofW HT_.out HW_.out (by kernel_rfl)) (fun _ _ _ h => h) (Or.inl ⟨by rfl, ?_⟩) hHeld ?_ ?_
      rotate_left
      ·
       rintro w' ⟨s0, s1, s2, s3, s4⟩
       go_simp
       with_reducible rfl
      rotate_left
      ·
       simp only [Act.put, List.setIfInBounds_toArray, List.set_cons_zero, List.set_cons_succ, i64_w, i32_w]
       rfl
      refine take_ (i := 8) (N := some 45) (v := ?_) (a' := ?_) #[true, true, false, true, true, true, true, true, true, false, false, false] rfl rfl (take_ofW HT_.out HW_.out (by kernel_rfl)) (fun _ _ _ h => h) (Or.inl ⟨by rfl, ?_⟩) hHeld ?_ ?_
      rotate_left
      ·
       rintro w' ⟨s0, s1, s2, s3, s4⟩
       go_simp
       with_reducible rfl
      rotate_left
      ·
       simp only [Act.put, List.setIfInBounds_toArray, List.set_cons_zero, List.set_cons_succ, i64_w, i32_w]
       rfl
      refine join_ (σ := Nat) 1 #[true, true, true, true, true, true, true, true, true, true, true, false] (fun s_ => [(39, .int .i64 t200), (8, .pointer (some ⟨s_, 0, none⟩)), (46, .agg #[.int .i64 t200, .bool t192, .bool t193, .int .i64 t196, .int .u8 0, .int .u8 0, .int .u8 0, .int .u8 0, .int .u8 0, .int .u8 0, .int .u8 0, .int .u8 0])]) (fun s_ w' => (w'.cell? ⟨gb198, 0, none⟩ = some (.bool t192) ∧ w'.cell? ⟨gb198, 1, none⟩ = some (.bool t193) ∧ w'.cell? ⟨gb198, 2, none⟩ = some (.int .i64 t194) ∧ w'.cell? ⟨gb198, 3, none⟩ = some (.int .i64 t195) ∧ w'.cell? ⟨gb198, 4, none⟩ = some (.int .i64 t196)) ∧ (w'.heap[gb188]? = some (.cells #[.int .i64 0, .bool false, .bool false, .int .i64 0, .int .u8 0, .int .u8 0, .int .u8 0, .int .u8 0, .int .u8 0, .int .u8 0, .int .u8 0, .int .u8 0] 24 (0, 0))) ∧ (w'.heap[gb198]? = some (.cells #[.bool t192, .bool t193, .int .i64 t194, .int .i64 t195, .int .i64 t196] 72 (0, 0))) ∧ (w'.heap[s_]? = some (.cells #[.int .i64 0, .bool false, .bool false, .int .i64 0, .int .u8 0, .int .u8 0, .int .u8 0, .int .u8 0, .int .u8 0, .int .u8 0, .int .u8 0, .int .u8 0] 24 (0, 0))) ∧ (w.heap.size ≤ s_) ∧ (w.heap.size ≤ s_) ∧ (gb188 ≠ s_) ∧ (s_ ≠ gb188) ∧ (gb198 ≠ s_) ∧ (s_ ≠ gb198) ∧ (Below w.heap.size w w')) ?_ ?_
      rotate_left
      ·
       intro hCont
       refine two_ (i := 2) (j := 10) (Ni := some 39) (Nj := some 8) #[true, true, true, true, true, true, true, true, true, false, false, false] #[true, true, false, true, true, true, true, true, true, false, true, false] rfl rfl rfl rfl (two_of HT_.out (by kernel_rfl)) (by decide) (by decide) (fun K hK => ?_) (fun K hK => ?_)
       ·
        skip
        refine goes_ Try.func57 (by kernel_rfl) rfl #[.slice A22 ((l0.take 12).drop 1).length (c0 - 1)] (by rfl) rfl rfl (by (try simp only [List.map_toArray, List.map_cons, List.map_nil]); first | done | (rw [show ((l0.take 12).drop 1).length = (12 - 1) from (by rw [List.length_drop, List.length_take]; have h_ : (12 : Int) ≤ (l0.length : Int) := of_decide_eq_true (by first | (with_reducible assumption) | assumption); omega)] <;> rfl) | rfl | (simp only [List.length_drop, List.length_take]; rfl)) ?_
        with_reducible refine (field_value.calls k _ _ ((l0.take 12).drop 1) t200 _ ?side1 ?side2 A12.out).mono ?_
        (case side1 => repeat (first | exact (Kd.C_below HR199.out HB.out) | (with_reducible refine Kd.C_alloc ?_ _) | (with_reducible refine Kd.C_drewN ?_ _) | (with_reducible refine Kd.C_drew ?_)))
        (case side2 => exact HC199.out)
        rintro e w' ⟨rfl, ⟨nd, rfl⟩⟩
        refine ⟨_, rfl, ?_⟩
        refine hK.out _ _ ⟨(zqab BK198.out 0).trans rfl, (zqab BK198.out 1).trans rfl, (zqab BK198.out 2).trans rfl, (zqab BK198.out 3).trans rfl, (zqab BK198.out 4).trans rfl⟩ (fun hHeld => ?_)
        clear hK K
        refine norm_ (a' := ?_) ?_ ?_
        rotate_left
        ·
         show Act.put _ (some 39) _ = _
         simp only [Act.put, List.setIfInBounds_toArray, List.set_cons_zero, List.set_cons_succ, i64_w, i32_w]
         rfl
        refine pure_ (i := 9) (N := some 46) (v := ?_) (a' := ?_) #[true, true, true, true, true, true, true, true, true, true, false, false] rfl rfl (any_of HT_.out (by kernel_rfl)) (fun _ _ _ h => h) (Or.inl ⟨by rfl, ?_⟩) ?_ ?_
        rotate_left
        ·
         intro w'
         go_simp
         with_reducible rfl
        rotate_left
        ·
         simp only [Act.put, List.setIfInBounds_toArray, List.set_cons_zero, List.set_cons_succ, i64_w, i32_w]
         rfl
        refine one_ (i := 10) (N := some 8) #[true, true, true, true, true, true, true, true, true, true, true, false] rfl rfl (one_of HT_.out (by kernel_rfl)) (by decide) (fun K hK => ?_)
        refine box_step ?hg (N := 8) ?hd (cs := #[.int .i64 0, .bool false, .bool false, .int .i64 0, .int .u8 0, .int .u8 0, .int .u8 0, .int .u8 0, .int .u8 0, .int .u8 0, .int .u8 0, .int .u8 0]) (t := 24) ?hr ?_; (case hd => rfl); (case hg => rfl); (case hr => first | (go_simp; done) | (go_simp; rfl))
        intro gb201 hg w23 hbox hb
        have n0_ := Aside0.mk (zqam (g := gb188) (o := .cells #[.int .i64 0, .bool false, .bool false, .int .i64 0, .int .u8 0, .int .u8 0, .int .u8 0, .int .u8 0, .int .u8 0, .int .u8 0, .int .u8 0, .int .u8 0] 24 (0, 0)) (by (with_reducible repeat (first | refine zqag ?_ _ | refine zqai ?_ | refine zqaf ?_ _)); exact BK188.out) hb)
        have n1_ := Aside0.mk (zqam (g := gb198) (o := .cells #[.bool t192, .bool t193, .int .i64 t194, .int .i64 t195, .int .i64 t196] 72 (0, 0)) (by (with_reducible repeat (first | refine zqag ?_ _ | refine zqai ?_ | refine zqaf ?_ _)); exact BK198.out) hb)
        have n2_ := Aside0.mk (zqak (by repeat (with_reducible first | exact HB.out | apply zqad | apply zqac | apply zqae | refine zqah ?_ GE188.out | refine zqah ?_ GE198.out)) hb)
        have n3_ := Aside0.mk (hbox)
        have n4_ := Aside0.mk ((by rw [hg]; exact (zqaj (by repeat (with_reducible first | exact HB.out | apply zqad | apply zqac | apply zqae | refine zqah ?_ GE188.out | refine zqah ?_ GE198.out))) : w.heap.size ≤ gb201))
        have n5_ := Aside0.mk ((by rw [hg]; exact (zqaj (by repeat (with_reducible first | exact HB.out | apply zqad | apply zqac | apply zqae | refine zqah ?_ GE188.out | refine zqah ?_ GE198.out))) : w.heap.size ≤ gb201))
        have n6_ := Aside0.mk ((by rw [hg]; exact Nat.ne_of_lt (blk_lt (g := gb188) (o := .cells #[.int .i64 0, .bool false, .bool false, .int .i64 0, .int .u8 0, .int .u8 0, .int .u8 0, .int .u8 0, .int .u8 0, .int .u8 0, .int .u8 0, .int .u8 0] 24 (0, 0)) (by (with_reducible repeat (first | refine zqag ?_ _ | refine zqai ?_ | refine zqaf ?_ _)); exact BK188.out)) : gb188 ≠ gb201))
        have n7_ := Aside0.mk ((by rw [hg]; exact Nat.ne_of_gt (blk_lt (g := gb188) (o := .cells #[.int .i64 0, .bool false, .bool false, .int .i64 0, .int .u8 0, .int .u8 0, .int .u8 0, .int .u8 0, .int .u8 0, .int .u8 0, .int .u8 0, .int .u8 0] 24 (0, 0)) (by (with_reducible repeat (first | refine zqag ?_ _ | refine zqai ?_ | refine zqaf ?_ _)); exact BK188.out)) : gb201 ≠ gb188))
        have n8_ := Aside0.mk ((by rw [hg]; exact Nat.ne_of_lt (blk_lt (g := gb198) (o := .cells #[.bool t192, .bool t193, .int .i64 t194, .int .i64 t195, .int .i64 t196] 72 (0, 0)) (by (with_reducible repeat (first | refine zqag ?_ _ | refine zqai ?_ | refine zqaf ?_ _)); exact BK198.out)) : gb198 ≠ gb201))
        have n9_ := Aside0.mk ((by rw [hg]; exact Nat.ne_of_gt (blk_lt (g := gb198) (o := .cells #[.bool t192, .bool t193, .int .i64 t194, .int .i64 t195, .int .i64 t196] 72 (0, 0)) (by (with_reducible repeat (first | refine zqag ?_ _ | refine zqai ?_ | refine zqaf ?_ _)); exact BK198.out)) : gb201 ≠ gb198))
        clear BK188
        clear BK198
        clear HB
        have BK188 := n0_
        have BK198 := n1_
        have HB := n2_
        have BK201 := n3_
        have GW201 := n4_
        have GE201 := n5_
        have NB188_201 := n6_
        have NB201_188 := n7_
        have NB198_201 := n8_
        have NB201_198 := n9_
        clear n0_ n1_ n2_ n3_ n4_ n5_ n6_ n7_ n8_ n9_
        clear hb hbox hg
        refine hK.out _ _ ⟨(zqab BK198.out 0).trans rfl, (zqab BK198.out 1).trans rfl, (zqab BK198.out 2).trans rfl, (zqab BK198.out 3).trans rfl, (zqab BK198.out 4).trans rfl⟩ (fun hHeld => ?_)
        clear hK K
        refine norm_ (a' := ?_) ?_ ?_
        rotate_left
        ·
         show Act.put _ (some 8) _ = _
         simp only [Act.put, List.setIfInBounds_toArray, List.set_cons_zero, List.set_cons_succ, i64_w, i32_w]
         rfl
        exact norm_ (by simp only [putAll, Act.put, List.setIfInBounds_toArray, List.set_cons_zero, List.set_cons_succ]) (hCont (gb201) _ ⟨hHeld, (by (with_reducible repeat (first | refine zqag ?_ _ | refine zqai ?_ | refine zqaf ?_ _)); exact BK188.out), (by (with_reducible repeat (first | refine zqag ?_ _ | refine zqai ?_ | refine zqaf ?_ _)); exact BK198.out), (by (with_reducible repeat (first | refine zqag ?_ _ | refine zqai ?_ | refine zqaf ?_ _)); exact BK201.out), GW201.out, GE201.out, NB188_201.out, NB201_188.out, NB198_201.out, NB201_198.out, (by repeat (with_reducible first | exact HB.out | apply zqad | apply zqac | apply zqae | refine zqah ?_ GE188.out | refine zqah ?_ GE198.out | refine zqah ?_ GE201.out))⟩)
       ·
        skip
        refine box_step ?hg (N := 8) ?hd (cs := #[.int .i64 0, .bool false, .bool false, .int .i64 0, .int .u8 0, .int .u8 0, .int .u8 0, .int .u8 0, .int .u8 0, .int .u8 0, .int .u8 0, .int .u8 0]) (t := 24) ?hr ?_; (case hd => rfl); (case hg => rfl); (case hr => first | (go_simp; done) | (go_simp; rfl))
        intro gb201 hg w23 hbox hb
        have n0_ := Aside0.mk (zqam (g := gb188) (o := .cells #[.int .i64 0, .bool false, .bool false, .int .i64 0, .int .u8 0, .int .u8 0, .int .u8 0, .int .u8 0, .int .u8 0, .int .u8 0, .int .u8 0, .int .u8 0] 24 (0, 0)) (by (with_reducible repeat (first | refine zqag ?_ _ | refine zqai ?_ | refine zqaf ?_ _)); exact BK188.out) hb)
        have n1_ := Aside0.mk (zqam (g := gb198) (o := .cells #[.bool t192, .bool t193, .int .i64 t194, .int .i64 t195, .int .i64 t196] 72 (0, 0)) (by (with_reducible repeat (first | refine zqag ?_ _ | refine zqai ?_ | refine zqaf ?_ _)); exact BK198.out) hb)
        have n2_ := Aside0.mk (zqak (by repeat (with_reducible first | exact HB.out | apply zqad | apply zqac | apply zqae | refine zqah ?_ GE188.out | refine zqah ?_ GE198.out)) hb)
        have n3_ := Aside0.mk (hbox)
        have n4_ := Aside0.mk ((by rw [hg]; exact (zqaj (by repeat (with_reducible first | exact HB.out | apply zqad | apply zqac | apply zqae | refine zqah ?_ GE188.out | refine zqah ?_ GE198.out))) : w.heap.size ≤ gb201))
        have n5_ := Aside0.mk ((by rw [hg]; exact (zqaj (by repeat (with_reducible first | exact HB.out | apply zqad | apply zqac | apply zqae | refine zqah ?_ GE188.out | refine zqah ?_ GE198.out))) : w.heap.size ≤ gb201))
        have n6_ := Aside0.mk ((by rw [hg]; exact Nat.ne_of_lt (blk_lt (g := gb188) (o := .cells #[.int .i64 0, .bool false, .bool false, .int .i64 0, .int .u8 0, .int .u8 0, .int .u8 0, .int .u8 0, .int .u8 0, .int .u8 0, .int .u8 0, .int .u8 0] 24 (0, 0)) (by (with_reducible repeat (first | refine zqag ?_ _ | refine zqai ?_ | refine zqaf ?_ _)); exact BK188.out)) : gb188 ≠ gb201))
        have n7_ := Aside0.mk ((by rw [hg]; exact Nat.ne_of_gt (blk_lt (g := gb188) (o := .cells #[.int .i64 0, .bool false, .bool false, .int .i64 0, .int .u8 0, .int .u8 0, .int .u8 0, .int .u8 0, .int .u8 0, .int .u8 0, .int .u8 0, .int .u8 0] 24 (0, 0)) (by (with_reducible repeat (first | refine zqag ?_ _ | refine zqai ?_ | refine zqaf ?_ _)); exact BK188.out)) : gb201 ≠ gb188))
        have n8_ := Aside0.mk ((by rw [hg]; exact Nat.ne_of_lt (blk_lt (g := gb198) (o := .cells #[.bool t192, .bool t193, .int .i64 t194, .int .i64 t195, .int .i64 t196] 72 (0, 0)) (by (with_reducible repeat (first | refine zqag ?_ _ | refine zqai ?_ | refine zqaf ?_ _)); exact BK198.out)) : gb198 ≠ gb201))
        have n9_ := Aside0.mk ((by rw [hg]; exact Nat.ne_of_gt (blk_lt (g := gb198) (o := .cells #[.bool t192, .bool t193, .int .i64 t194, .int .i64 t195, .int .i64 t196] 72 (0, 0)) (by (with_reducible repeat (first | refine zqag ?_ _ | refine zqai ?_ | refine zqaf ?_ _)); exact BK198.out)) : gb201 ≠ gb198))
        clear BK188
        clear BK198
        clear HB
        have BK188 := n0_
        have BK198 := n1_
        have HB := n2_
        have BK201 := n3_
        have GW201 := n4_
        have GE201 := n5_
        have NB188_201 := n6_
        have NB201_188 := n7_
        have NB198_201 := n8_
        have NB201_198 := n9_
        clear n0_ n1_ n2_ n3_ n4_ n5_ n6_ n7_ n8_ n9_
        clear hb hbox hg
        refine hK.out _ _ ⟨(zqab BK198.out 0).trans rfl, (zqab BK198.out 1).trans rfl, (zqab BK198.out 2).trans rfl, (zqab BK198.out 3).trans rfl, (zqab BK198.out 4).trans rfl⟩ (fun hHeld => ?_)
        clear hK K
        refine norm_ (a' := ?_) ?_ ?_
        rotate_left
        ·
         show Act.put _ (some 8) _ = _
         simp only [Act.put, List.setIfInBounds_toArray, List.set_cons_zero, List.set_cons_succ, i64_w, i32_w]
         rfl
        refine one_ (i := 2) (N := some 39) #[true, true, true, true, true, true, true, true, true, false, true, false] rfl rfl (one_of HT_.out (by kernel_rfl)) (by decide) (fun K hK => ?_)
        refine goes_ Try.func57 (by kernel_rfl) rfl #[.slice A22 ((l0.take 12).drop 1).length (c0 - 1)] (by rfl) rfl rfl (by (try simp only [List.map_toArray, List.map_cons, List.map_nil]); first | done | (rw [show ((l0.take 12).drop 1).length = (12 - 1) from (by rw [List.length_drop, List.length_take]; have h_ : (12 : Int) ≤ (l0.length : Int) := of_decide_eq_true (by first | (with_reducible assumption) | assumption); omega)] <;> rfl) | rfl | (simp only [List.length_drop, List.length_take]; rfl)) ?_
        with_reducible refine (field_value.calls k _ _ ((l0.take 12).drop 1) t200 _ ?side1 ?side2 A12.out).mono ?_
        (case side1 => repeat (first | exact (Kd.C_below HR199.out HB.out) | (with_reducible refine Kd.C_alloc ?_ _) | (with_reducible refine Kd.C_drewN ?_ _) | (with_reducible refine Kd.C_drew ?_)))
        (case side2 => exact HC199.out)
        rintro e w' ⟨rfl, ⟨nd, rfl⟩⟩
        refine ⟨_, rfl, ?_⟩
        refine hK.out _ _ ⟨(zqab BK198.out 0).trans rfl, (zqab BK198.out 1).trans rfl, (zqab BK198.out 2).trans rfl, (zqab BK198.out 3).trans rfl, (zqab BK198.out 4).trans rfl⟩ (fun hHeld => ?_)
        clear hK K
        refine norm_ (a' := ?_) ?_ ?_
        rotate_left
        ·
         show Act.put _ (some 39) _ = _
         simp only [Act.put, List.setIfInBounds_toArray, List.set_cons_zero, List.set_cons_succ, i64_w, i32_w]
         rfl
        refine pure_ (i := 9) (N := some 46) (v := ?_) (a' := ?_) #[true, true, true, true, true, true, true, true, true, true, true, false] rfl rfl (any_of HT_.out (by kernel_rfl)) (fun _ _ _ h => h) (Or.inl ⟨by rfl, ?_⟩) ?_ ?_
        rotate_left
        ·
         intro w'
         go_simp
         with_reducible rfl
        rotate_left
        ·
         simp only [Act.put, List.setIfInBounds_toArray, List.set_cons_zero, List.set_cons_succ, i64_w, i32_w]
         rfl
        exact norm_ (by simp only [putAll, Act.put, List.setIfInBounds_toArray, List.set_cons_zero, List.set_cons_succ]) (hCont (gb201) _ ⟨hHeld, (by (with_reducible repeat (first | refine zqag ?_ _ | refine zqai ?_ | refine zqaf ?_ _)); exact BK188.out), (by (with_reducible repeat (first | refine zqag ?_ _ | refine zqai ?_ | refine zqaf ?_ _)); exact BK198.out), (by (with_reducible repeat (first | refine zqag ?_ _ | refine zqai ?_ | refine zqaf ?_ _)); exact BK201.out), GW201.out, GE201.out, NB188_201.out, NB201_188.out, NB198_201.out, NB201_198.out, (by repeat (with_reducible first | exact HB.out | apply zqad | apply zqac | apply zqae | refine zqah ?_ GE188.out | refine zqah ?_ GE198.out | refine zqah ?_ GE201.out))⟩)
      rintro gb201 w24 ⟨hS_, h0_, h1_, h2_, h3_, h4_, h5_, h6_, h7_, h8_, h9_⟩
      have n0_ : Aside0 (w24.heap[gb188]? = some (.cells #[.int .i64 0, .bool false, .bool false, .int .i64 0, .int .u8 0, .int .u8 0, .int .u8 0, .int .u8 0, .int .u8 0, .int .u8 0, .int .u8 0, .int .u8 0] 24 (0, 0))) := ⟨h0_⟩
      have n1_ : Aside0 (w24.heap[gb198]? = some (.cells #[.bool t192, .bool t193, .int .i64 t194, .int .i64 t195, .int .i64 t196] 72 (0, 0))) := ⟨h1_⟩
      have n2_ : Aside0 (w24.heap[gb201]? = some (.cells #[.int .i64 0, .bool false, .bool false, .int .i64 0, .int .u8 0, .int .u8 0, .int .u8 0, .int .u8 0, .int .u8 0, .int .u8 0, .int .u8 0, .int .u8 0] 24 (0, 0))) := ⟨h2_⟩
      have n3_ : Aside0 (w.heap.size ≤ gb201) := ⟨h3_⟩
      have n4_ : Aside0 (w.heap.size ≤ gb201) := ⟨h4_⟩
      have n5_ : Aside0 (gb188 ≠ gb201) := ⟨h5_⟩
      have n6_ : Aside0 (gb201 ≠ gb188) := ⟨h6_⟩
      have n7_ : Aside0 (gb198 ≠ gb201) := ⟨h7_⟩
      have n8_ : Aside0 (gb201 ≠ gb198) := ⟨h8_⟩
      have n9_ : Aside0 (Below w.heap.size w w24) := ⟨h9_⟩
      clear BK188
      clear BK198
      clear HB
      clear h0_ h1_ h2_ h3_ h4_ h5_ h6_ h7_ h8_ h9_
      have BK188 := n0_
      have BK198 := n1_
      have BK201 := n2_
      have GW201 := n3_
      have GE201 := n4_
      have NB188_201 := n5_
      have NB201_188 := n6_
      have NB198_201 := n7_
      have NB201_198 := n8_
      have HB := n9_
      clear n0_ n1_ n2_ n3_ n4_ n5_ n6_ n7_ n8_ n9_
      have hHeld : w24.cell? ⟨gb198, 0, none⟩ = some (.bool t192) ∧ w24.cell? ⟨gb198, 1, none⟩ = some (.bool t193) ∧ w24.cell? ⟨gb198, 2, none⟩ = some (.int .i64 t194) ∧ w24.cell? ⟨gb198, 3, none⟩ = some (.int .i64 t195) ∧ w24.cell? ⟨gb198, 4, none⟩ = some (.int .i64 t196) := hS_
      refine norm_ (a' := ?_) ?_ ?_
      rotate_left
      ·
       simp only [putAll, Act.put, List.setIfInBounds_toArray, List.set_cons_zero, List.set_cons_succ]
       rfl
      refine one_ (i := 11) (N := none) #[true, true, true, true, true, true, true, true, true, true, true, true] rfl rfl (one_of HT_.out (by kernel_rfl)) (by decide) (fun K hK => ?_)
      have hs25 : w24.cell? ⟨gb201, 0, none⟩ = some (.int .i64 0) := (zqab BK201.out 0).trans rfl
      have hfs25 := zqaa BK201.out 0
      have hns25_0 := NB188_201.out
      have hns25_1 := NB198_201.out
      have hms25_0 := NB201_188.out
      have hms25_1 := NB201_198.out
      have hs26 : w24.cell? ⟨gb201, 1, none⟩ = some (.bool false) := (zqab BK201.out 1).trans rfl
      have hfs26 := zqaa BK201.out 1
      have hns26_0 := NB188_201.out
      have hns26_1 := NB198_201.out
      have hms26_0 := NB201_188.out
      have hms26_1 := NB201_198.out
      have hs27 : w24.cell? ⟨gb201, 2, none⟩ = some (.bool false) := (zqab BK201.out 2).trans rfl
      have hfs27 := zqaa BK201.out 2
      have hns27_0 := NB188_201.out
      have hns27_1 := NB198_201.out
      have hms27_0 := NB201_188.out
      have hms27_1 := NB201_198.out
      have hs28 : w24.cell? ⟨gb201, 3, none⟩ = some (.int .i64 0) := (zqab BK201.out 3).trans rfl
      have hfs28 := zqaa BK201.out 3
      have hns28_0 := NB188_201.out
      have hns28_1 := NB198_201.out
      have hms28_0 := NB201_188.out
      have hms28_1 := NB201_198.out
      have hs29 : w24.cell? ⟨gb201, 4, none⟩ = some (.int .u8 0) := (zqab BK201.out 4).trans rfl
      have hfs29 := zqaa BK201.out 4
      have hns29_0 := NB188_201.out
      have hns29_1 := NB198_201.out
      have hms29_0 := NB201_188.out
      have hms29_1 := NB201_198.out
      have hs30 : w24.cell? ⟨gb201, 5, none⟩ = some (.int .u8 0) := (zqab BK201.out 5).trans rfl
      have hfs30 := zqaa BK201.out 5
      have hns30_0 := NB188_201.out
      have hns30_1 := NB198_201.out
      have hms30_0 := NB201_188.out
      have hms30_1 := NB201_198.out
      have hs31 : w24.cell? ⟨gb201, 6, none⟩ = some (.int .u8 0) := (zqab BK201.out 6).trans rfl
      have hfs31 := zqaa BK201.out 6
      have hns31_0 := NB188_201.out
      have hns31_1 := NB198_201.out
      have hms31_0 := NB201_188.out
      have hms31_1 := NB201_198.out
      have hs32 : w24.cell? ⟨gb201, 7, none⟩ = some (.int .u8 0) := (zqab BK201.out 7).trans rfl
      have hfs32 := zqaa BK201.out 7
      have hns32_0 := NB188_201.out
      have hns32_1 := NB198_201.out
      have hms32_0 := NB201_188.out
      have hms32_1 := NB201_198.out
      have hs33 : w24.cell? ⟨gb201, 8, none⟩ = some (.int .u8 0) := (zqab BK201.out 8).trans rfl
      have hfs33 := zqaa BK201.out 8
      have hns33_0 := NB188_201.out
      have hns33_1 := NB198_201.out
      have hms33_0 := NB201_188.out
      have hms33_1 := NB201_198.out
      have hs34 : w24.cell? ⟨gb201, 9, none⟩ = some (.int .u8 0) := (zqab BK201.out 9).trans rfl
      have hfs34 := zqaa BK201.out 9
      have hns34_0 := NB188_201.out
      have hns34_1 := NB198_201.out
      have hms34_0 := NB201_188.out
      have hms34_1 := NB201_198.out
      have hs35 : w24.cell? ⟨gb201, 10, none⟩ = some (.int .u8 0) := (zqab BK201.out 10).trans rfl
      have hfs35 := zqaa BK201.out 10
      have hns35_0 := NB188_201.out
      have hns35_1 := NB198_201.out
      have hms35_0 := NB201_188.out
      have hms35_1 := NB201_198.out
      have hs36 : w24.cell? ⟨gb201, 11, none⟩ = some (.int .u8 0) := (zqab BK201.out 11).trans rfl
      have hfs36 := zqaa BK201.out 11
      have hns36_0 := NB188_201.out
      have hns36_1 := NB198_201.out
      have hms36_0 := NB201_188.out
      have hms36_1 := NB201_198.out
      refine skip_ (w1 := ?_) (by rfl) rfl ?_ ?_
      rotate_left
      ·
       go_simp
       rfl
      refine hK.out _ _ ⟨((zqaq (p := ⟨gb201, _, none⟩) NB198_201.out _).trans (((zqaq (p := ⟨gb201, _, none⟩) NB198_201.out _).trans (((zqaq (p := ⟨gb201, _, none⟩) NB198_201.out _).trans (((zqaq (p := ⟨gb201, _, none⟩) NB198_201.out _).trans (((zqaq (p := ⟨gb201, _, none⟩) NB198_201.out _).trans (((zqaq (p := ⟨gb201, _, none⟩) NB198_201.out _).trans (((zqaq (p := ⟨gb201, _, none⟩) NB198_201.out _).trans (((zqaq (p := ⟨gb201, _, none⟩) NB198_201.out _).trans (((zqaq (p := ⟨gb201, _, none⟩) NB198_201.out _).trans (((zqaq (p := ⟨gb201, _, none⟩) NB198_201.out _).trans (((zqaq (p := ⟨gb201, _, none⟩) NB198_201.out _).trans (((zqaq (p := ⟨gb201, _, none⟩) NB198_201.out _).trans (hHeld.1)))))))))))))))))))))))), ((zqaq (p := ⟨gb201, _, none⟩) NB198_201.out _).trans (((zqaq (p := ⟨gb201, _, none⟩) NB198_201.out _).trans (((zqaq (p := ⟨gb201, _, none⟩) NB198_201.out _).trans (((zqaq (p := ⟨gb201, _, none⟩) NB198_201.out _).trans (((zqaq (p := ⟨gb201, _, none⟩) NB198_201.out _).trans (((zqaq (p := ⟨gb201, _, none⟩) NB198_201.out _).trans (((zqaq (p := ⟨gb201, _, none⟩) NB198_201.out _).trans (((zqaq (p := ⟨gb201, _, none⟩) NB198_201.out _).trans (((zqaq (p := ⟨gb201, _, none⟩) NB198_201.out _).trans (((zqaq (p := ⟨gb201, _, none⟩) NB198_201.out _).trans (((zqaq (p := ⟨gb201, _, none⟩) NB198_201.out _).trans (((zqaq (p := ⟨gb201, _, none⟩) NB198_201.out _).trans (hHeld.2.1)))))))))))))))))))))))), ((zqaq (p := ⟨gb201, _, none⟩) NB198_201.out _).trans (((zqaq (p := ⟨gb201, _, none⟩) NB198_201.out _).trans (((zqaq (p := ⟨gb201, _, none⟩) NB198_201.out _).trans (((zqaq (p := ⟨gb201, _, none⟩) NB198_201.out _).trans (((zqaq (p := ⟨gb201, _, none⟩) NB198_201.out _).trans (((zqaq (p := ⟨gb201, _, none⟩) NB198_201.out _).trans (((zqaq (p := ⟨gb201, _, none⟩) NB198_201.out _).trans (((zqaq (p := ⟨gb201, _, none⟩) NB198_201.out _).trans (((zqaq (p := ⟨gb201, _, none⟩) NB198_201.out _).trans (((zqaq (p := ⟨gb201, _, none⟩) NB198_201.out _).trans (((zqaq (p := ⟨gb201, _, none⟩) NB198_201.out _).trans (((zqaq (p := ⟨gb201, _, none⟩) NB198_201.out _).trans (hHeld.2.2.1)))))))))))))))))))))))), ((zqaq (p := ⟨gb201, _, none⟩) NB198_201.out _).trans (((zqaq (p := ⟨gb201, _, none⟩) NB198_201.out _).trans (((zqaq (p := ⟨gb201, _, none⟩) NB198_201.out _).trans (((zqaq (p := ⟨gb201, _, none⟩) NB198_201.out _).trans (((zqaq (p := ⟨gb201, _, none⟩) NB198_201.out _).trans (((zqaq (p := ⟨gb201, _, none⟩) NB198_201.out _).trans (((zqaq (p := ⟨gb201, _, none⟩) NB198_201.out _).trans (((zqaq (p := ⟨gb201, _, none⟩) NB198_201.out _).trans (((zqaq (p := ⟨gb201, _, none⟩) NB198_201.out _).trans (((zqaq (p := ⟨gb201, _, none⟩) NB198_201.out _).trans (((zqaq (p := ⟨gb201, _, none⟩) NB198_201.out _).trans (((zqaq (p := ⟨gb201, _, none⟩) NB198_201.out _).trans (hHeld.2.2.2.1)))))))))))))))))))))))), ((zqaq (p := ⟨gb201, _, none⟩) NB198_201.out _).trans (((zqaq (p := ⟨gb201, _, none⟩) NB198_201.out _).trans (((zqaq (p := ⟨gb201, _, none⟩) NB198_201.out _).trans (((zqaq (p := ⟨gb201, _, none⟩) NB198_201.out _).trans (((zqaq (p := ⟨gb201, _, none⟩) NB198_201.out _).trans (((zqaq (p := ⟨gb201, _, none⟩) NB198_201.out _).trans (((zqaq (p := ⟨gb201, _, none⟩) NB198_201.out _).trans (((zqaq (p := ⟨gb201, _, none⟩) NB198_201.out _).trans (((zqaq (p := ⟨gb201, _, none⟩) NB198_201.out _).trans (((zqaq (p := ⟨gb201, _, none⟩) NB198_201.out _).trans (((zqaq (p := ⟨gb201, _, none⟩) NB198_201.out _).trans (((zqaq (p := ⟨gb201, _, none⟩) NB198_201.out _).trans (hHeld.2.2.2.2))))))))))))))))))))))))⟩ (fun hHeld => ?_)
      clear hK K
      refine done_ (done_of HT_.out (by kernel_rfl)) ?_
      have hnb37 := NB198_201.out
      have hnc37 := NB201_198.out
      have hcz38_0 : w24.cell? ⟨gb198, 0, none⟩ = some (.bool t192) := (zqab BK198.out 0).trans rfl
      have hcz38_1 : w24.cell? ⟨gb198, 1, none⟩ = some (.bool t193) := (zqab BK198.out 1).trans rfl
      have hcz38_2 : w24.cell? ⟨gb198, 2, none⟩ = some (.int .i64 t194) := (zqab BK198.out 2).trans rfl
      have hcz38_3 : w24.cell? ⟨gb198, 3, none⟩ = some (.int .i64 t195) := (zqab BK198.out 3).trans rfl
      have hcz38_4 : w24.cell? ⟨gb198, 4, none⟩ = some (.int .i64 t196) := (zqab BK198.out 4).trans rfl
      have hfz38_0 := zqaa BK198.out 0
      have hfz38_1 := zqaa BK198.out 1
      have hfz38_2 := zqaa BK198.out 2
      have hfz38_3 := zqaa BK198.out 3
      have hfz38_4 := zqaa BK198.out 4
      go_upto_if 48 with (fail)
      go_cut [] (fun wc => ∃ (kq : Nat) (x202000_12 : Int), Aside0 (field_Frame.j0 kq l0 t189 t192 t193 t194 t195 t196 x202000_12 t192 t193 t196 0 0 0 0 0 0 0 0 = some (r1, r2, r3, r4, r5, r6, r7, r8, r9, r10, r11, r12, r13)) ∧ Aside0 (kq ≤ k) ∧ Aside0 (wc.heap[gb188]? = some (.cells #[.int .i64 0, .bool false, .bool false, .int .i64 0, .int .u8 0, .int .u8 0, .int .u8 0, .int .u8 0, .int .u8 0, .int .u8 0, .int .u8 0, .int .u8 0] 24 (0, 0))) ∧ Aside0 (wc.heap[gb198]? = some (.cells #[.bool t192, .bool t193, .int .i64 t194, .int .i64 t195, .int .i64 t196] 72 (0, 0))) ∧ Aside0 (wc.heap[gb201]? = some (.cells #[.int .i64 x202000_12, .bool t192, .bool t193, .int .i64 t196, .int .u8 0, .int .u8 0, .int .u8 0, .int .u8 0, .int .u8 0, .int .u8 0, .int .u8 0, .int .u8 0] 24 (0, 0))) ∧ Aside0 (Below w.heap.size w wc))
      case first =>
       have H := HC13.out
       clear HC13
       by_cases c39 : t192 = true
       ·
        subst c39
        have H1 : (if 32 ≤ (l0.length : Int) then ((field_value.f k ((l0.take 32).drop 14)).bind fun t203 => (field_Frame.j0 k l0 t189 true t193 t194 t195 t196 (Go.bits .or .i64 (wrap64 (t200 * 262144)) t203) true t193 t196 0 0 0 0 0 0 0 0)) else (none)) = some (r1, r2, r3, r4, r5, r6, r7, r8, r9, r10, r11, r12, r13) := by rw [if_pos rfl] at H; exact H
        clear H
        have H := H1
        clear H1
        by_cases c40 : 32 ≤ (l0.length : Int)
        ·
         rw [if_pos c40] at H
         have c40b0 := eq_true c40
         have c40b1 : decide (32 ≤ (l0.length : Int)) = true := decide_eq_true c40
         clear c40
         replace H := Option.bind_eq_some_iff.mp H
         obtain ⟨t203, A410, H⟩ := H
         replace H : (field_Frame.j0 k l0 t189 true t193 t194 t195 t196 (Go.bits .or .i64 (wrap64 (t200 * 262144)) t203) true t193 t196 0 0 0 0 0 0 0 0) = some (r1, r2, r3, r4, r5, r6, r7, r8, r9, r10, r11, r12, r13) := H
         have A41 := Aside0.mk A410
         clear A410
         have H' := Aside0.mk H
         clear H
         try go_wp2
         have n0_ : Aside0 (((((((((((((w24.setCell ⟨gb201, 0, none⟩ (.int .i64 t200)).setCell ⟨gb201, 1, none⟩ (.bool true)).setCell ⟨gb201, 2, none⟩ (.bool t193)).setCell ⟨gb201, 3, none⟩ (.int .i64 t196)).setCell ⟨gb201, 4, none⟩ (.int .u8 0)).setCell ⟨gb201, 5, none⟩ (.int .u8 0)).setCell ⟨gb201, 6, none⟩ (.int .u8 0)).setCell ⟨gb201, 7, none⟩ (.int .u8 0)).setCell ⟨gb201, 8, none⟩ (.int .u8 0)).setCell ⟨gb201, 9, none⟩ (.int .u8 0)).setCell ⟨gb201, 10, none⟩ (.int .u8 0)).setCell ⟨gb201, 11, none⟩ (.int .u8 0)).heap[gb188]? = some (.cells #[.int .i64 0, .bool false, .bool false, .int .i64 0, .int .u8 0, .int .u8 0, .int .u8 0, .int .u8 0, .int .u8 0, .int .u8 0, .int .u8 0, .int .u8 0] 24 (0, 0))) := ⟨by (with_reducible repeat (first | refine zqag ?_ _ | refine zqai ?_ | refine zqaf ?_ _)); refine zqas ?_ NB188_201.out _; (with_reducible repeat (first | refine zqag ?_ _ | refine zqai ?_ | refine zqaf ?_ _)); refine zqas ?_ NB188_201.out _; (with_reducible repeat (first | refine zqag ?_ _ | refine zqai ?_ | refine zqaf ?_ _)); refine zqas ?_ NB188_201.out _; (with_reducible repeat (first | refine zqag ?_ _ | refine zqai ?_ | refine zqaf ?_ _)); refine zqas ?_ NB188_201.out _; (with_reducible repeat (first | refine zqag ?_ _ | refine zqai ?_ | refine zqaf ?_ _)); refine zqas ?_ NB188_201.out _; (with_reducible repeat (first | refine zqag ?_ _ | refine zqai ?_ | refine zqaf ?_ _)); refine zqas ?_ NB188_201.out _; (with_reducible repeat (first | refine zqag ?_ _ | refine zqai ?_ | refine zqaf ?_ _)); refine zqas ?_ NB188_201.out _; (with_reducible repeat (first | refine zqag ?_ _ | refine zqai ?_ | refine zqaf ?_ _)); refine zqas ?_ NB188_201.out _; (with_reducible repeat (first | refine zqag ?_ _ | refine zqai ?_ | refine zqaf ?_ _)); refine zqas ?_ NB188_201.out _; (with_reducible repeat (first | refine zqag ?_ _ | refine zqai ?_ | refine zqaf ?_ _)); refine zqas ?_ NB188_201.out _; (with_reducible repeat (first | refine zqag ?_ _ | refine zqai ?_ | refine zqaf ?_ _)); refine zqas ?_ NB188_201.out _; (with_reducible repeat (first | refine zqag ?_ _ | refine zqai ?_ | refine zqaf ?_ _)); refine zqas ?_ NB188_201.out _; (with_reducible repeat (first | refine zqag ?_ _ | refine zqai ?_ | refine zqaf ?_ _)); exact BK188.out⟩
         have n1_ : Aside0 (((((((((((((w24.setCell ⟨gb201, 0, none⟩ (.int .i64 t200)).setCell ⟨gb201, 1, none⟩ (.bool true)).setCell ⟨gb201, 2, none⟩ (.bool t193)).setCell ⟨gb201, 3, none⟩ (.int .i64 t196)).setCell ⟨gb201, 4, none⟩ (.int .u8 0)).setCell ⟨gb201, 5, none⟩ (.int .u8 0)).setCell ⟨gb201, 6, none⟩ (.int .u8 0)).setCell ⟨gb201, 7, none⟩ (.int .u8 0)).setCell ⟨gb201, 8, none⟩ (.int .u8 0)).setCell ⟨gb201, 9, none⟩ (.int .u8 0)).setCell ⟨gb201, 10, none⟩ (.int .u8 0)).setCell ⟨gb201, 11, none⟩ (.int .u8 0)).heap[gb198]? = some (.cells #[.bool true, .bool t193, .int .i64 t194, .int .i64 t195, .int .i64 t196] 72 (0, 0))) := ⟨by (with_reducible repeat (first | refine zqag ?_ _ | refine zqai ?_ | refine zqaf ?_ _)); refine zqas ?_ NB198_201.out _; (with_reducible repeat (first | refine zqag ?_ _ | refine zqai ?_ | refine zqaf ?_ _)); refine zqas ?_ NB198_201.out _; (with_reducible repeat (first | refine zqag ?_ _ | refine zqai ?_ | refine zqaf ?_ _)); refine zqas ?_ NB198_201.out _; (with_reducible repeat (first | refine zqag ?_ _ | refine zqai ?_ | refine zqaf ?_ _)); refine zqas ?_ NB198_201.out _; (with_reducible repeat (first | refine zqag ?_ _ | refine zqai ?_ | refine zqaf ?_ _)); refine zqas ?_ NB198_201.out _; (with_reducible repeat (first | refine zqag ?_ _ | refine zqai ?_ | refine zqaf ?_ _)); refine zqas ?_ NB198_201.out _; (with_reducible repeat (first | refine zqag ?_ _ | refine zqai ?_ | refine zqaf ?_ _)); refine zqas ?_ NB198_201.out _; (with_reducible repeat (first | refine zqag ?_ _ | refine zqai ?_ | refine zqaf ?_ _)); refine zqas ?_ NB198_201.out _; (with_reducible repeat (first | refine zqag ?_ _ | refine zqai ?_ | refine zqaf ?_ _)); refine zqas ?_ NB198_201.out _; (with_reducible repeat (first | refine zqag ?_ _ | refine zqai ?_ | refine zqaf ?_ _)); refine zqas ?_ NB198_201.out _; (with_reducible repeat (first | refine zqag ?_ _ | refine zqai ?_ | refine zqaf ?_ _)); refine zqas ?_ NB198_201.out _; (with_reducible repeat (first | refine zqag ?_ _ | refine zqai ?_ | refine zqaf ?_ _)); refine zqas ?_ NB198_201.out _; (with_reducible repeat (first | refine zqag ?_ _ | refine zqai ?_ | refine zqaf ?_ _)); exact BK198.out⟩
         have n2_ : Aside0 (((((((((((((w24.setCell ⟨gb201, 0, none⟩ (.int .i64 t200)).setCell ⟨gb201, 1, none⟩ (.bool true)).setCell ⟨gb201, 2, none⟩ (.bool t193)).setCell ⟨gb201, 3, none⟩ (.int .i64 t196)).setCell ⟨gb201, 4, none⟩ (.int .u8 0)).setCell ⟨gb201, 5, none⟩ (.int .u8 0)).setCell ⟨gb201, 6, none⟩ (.int .u8 0)).setCell ⟨gb201, 7, none⟩ (.int .u8 0)).setCell ⟨gb201, 8, none⟩ (.int .u8 0)).setCell ⟨gb201, 9, none⟩ (.int .u8 0)).setCell ⟨gb201, 10, none⟩ (.int .u8 0)).setCell ⟨gb201, 11, none⟩ (.int .u8 0)).heap[gb201]? = some (.cells #[.int .i64 t200, .bool true, .bool t193, .int .i64 t196, .int .u8 0, .int .u8 0, .int .u8 0, .int .u8 0, .int .u8 0, .int .u8 0, .int .u8 0, .int .u8 0] 24 (0, 0))) := ⟨by (with_reducible repeat (first | refine zqag ?_ _ | refine zqai ?_ | refine zqaf ?_ _)); refine zqan (cs := #[.int .i64 t200, .bool true, .bool t193, .int .i64 t196, .int .u8 0, .int .u8 0, .int .u8 0, .int .u8 0, .int .u8 0, .int .u8 0, .int .u8 0, .int .u8 0]) ?_ 11 _ rfl; (with_reducible repeat (first | refine zqag ?_ _ | refine zqai ?_ | refine zqaf ?_ _)); refine zqan (cs := #[.int .i64 t200, .bool true, .bool t193, .int .i64 t196, .int .u8 0, .int .u8 0, .int .u8 0, .int .u8 0, .int .u8 0, .int .u8 0, .int .u8 0, .int .u8 0]) ?_ 10 _ rfl; (with_reducible repeat (first | refine zqag ?_ _ | refine zqai ?_ | refine zqaf ?_ _)); refine zqan (cs := #[.int .i64 t200, .bool true, .bool t193, .int .i64 t196, .int .u8 0, .int .u8 0, .int .u8 0, .int .u8 0, .int .u8 0, .int .u8 0, .int .u8 0, .int .u8 0]) ?_ 9 _ rfl; (with_reducible repeat (first | refine zqag ?_ _ | refine zqai ?_ | refine zqaf ?_ _)); refine zqan (cs := #[.int .i64 t200, .bool true, .bool t193, .int .i64 t196, .int .u8 0, .int .u8 0, .int .u8 0, .int .u8 0, .int .u8 0, .int .u8 0, .int .u8 0, .int .u8 0]) ?_ 8 _ rfl; (with_reducible repeat (first | refine zqag ?_ _ | refine zqai ?_ | refine zqaf ?_ _)); refine zqan (cs := #[.int .i64 t200, .bool true, .bool t193, .int .i64 t196, .int .u8 0, .int .u8 0, .int .u8 0, .int .u8 0, .int .u8 0, .int .u8 0, .int .u8 0, .int .u8 0]) ?_ 7 _ rfl; (with_reducible repeat (first | refine zqag ?_ _ | refine zqai ?_ | refine zqaf ?_ _)); refine zqan (cs := #[.int .i64 t200, .bool true, .bool t193, .int .i64 t196, .int .u8 0, .int .u8 0, .int .u8 0, .int .u8 0, .int .u8 0, .int .u8 0, .int .u8 0, .int .u8 0]) ?_ 6 _ rfl; (with_reducible repeat (first | refine zqag ?_ _ | refine zqai ?_ | refine zqaf ?_ _)); refine zqan (cs := #[.int .i64 t200, .bool true, .bool t193, .int .i64 t196, .int .u8 0, .int .u8 0, .int .u8 0, .int .u8 0, .int .u8 0, .int .u8 0, .int .u8 0, .int .u8 0]) ?_ 5 _ rfl; (with_reducible repeat (first | refine zqag ?_ _ | refine zqai ?_ | refine zqaf ?_ _)); refine zqan (cs := #[.int .i64 t200, .bool true, .bool t193, .int .i64 t196, .int .u8 0, .int .u8 0, .int .u8 0, .int .u8 0, .int .u8 0, .int .u8 0, .int .u8 0, .int .u8 0]) ?_ 4 _ rfl; (with_reducible repeat (first | refine zqag ?_ _ | refine zqai ?_ | refine zqaf ?_ _)); refine zqan (cs := #[.int .i64 t200, .bool true, .bool t193, .int .i64 0, .int .u8 0, .int .u8 0, .int .u8 0, .int .u8 0, .int .u8 0, .int .u8 0, .int .u8 0, .int .u8 0]) ?_ 3 _ rfl; (with_reducible repeat (first | refine zqag ?_ _ | refine zqai ?_ | refine zqaf ?_ _)); refine zqan (cs := #[.int .i64 t200, .bool true, .bool false, .int .i64 0, .int .u8 0, .int .u8 0, .int .u8 0, .int .u8 0, .int .u8 0, .int .u8 0, .int .u8 0, .int .u8 0]) ?_ 2 _ rfl; (with_reducible repeat (first | refine zqag ?_ _ | refine zqai ?_ | refine zqaf ?_ _)); refine zqan (cs := #[.int .i64 t200, .bool false, .bool false, .int .i64 0, .int .u8 0, .int .u8 0, .int .u8 0, .int .u8 0, .int .u8 0, .int .u8 0, .int .u8 0, .int .u8 0]) ?_ 1 _ rfl; (with_reducible repeat (first | refine zqag ?_ _ | refine zqai ?_ | refine zqaf ?_ _)); refine zqan (cs := #[.int .i64 0, .bool false, .bool false, .int .i64 0, .int .u8 0, .int .u8 0, .int .u8 0, .int .u8 0, .int .u8 0, .int .u8 0, .int .u8 0, .int .u8 0]) ?_ 0 _ rfl; (with_reducible repeat (first | refine zqag ?_ _ | refine zqai ?_ | refine zqaf ?_ _)); exact BK201.out⟩
         have n3_ : Aside0 (Below w.heap.size w ((((((((((((w24.setCell ⟨gb201, 0, none⟩ (.int .i64 t200)).setCell ⟨gb201, 1, none⟩ (.bool true)).setCell ⟨gb201, 2, none⟩ (.bool t193)).setCell ⟨gb201, 3, none⟩ (.int .i64 t196)).setCell ⟨gb201, 4, none⟩ (.int .u8 0)).setCell ⟨gb201, 5, none⟩ (.int .u8 0)).setCell ⟨gb201, 6, none⟩ (.int .u8 0)).setCell ⟨gb201, 7, none⟩ (.int .u8 0)).setCell ⟨gb201, 8, none⟩ (.int .u8 0)).setCell ⟨gb201, 9, none⟩ (.int .u8 0)).setCell ⟨gb201, 10, none⟩ (.int .u8 0)).setCell ⟨gb201, 11, none⟩ (.int .u8 0))) := ⟨by repeat (with_reducible first | exact HB.out | apply zqad | apply zqac | apply zqae | refine zqah ?_ GE188.out | refine zqah ?_ GE198.out | refine zqah ?_ GE201.out)⟩
         (try clear BK188)
         (try clear BK198)
         (try clear BK201)
         (try clear HB)
         generalize ((((((((((((w24.setCell ⟨gb201, 0, none⟩ (.int .i64 t200)).setCell ⟨gb201, 1, none⟩ (.bool true)).setCell ⟨gb201, 2, none⟩ (.bool t193)).setCell ⟨gb201, 3, none⟩ (.int .i64 t196)).setCell ⟨gb201, 4, none⟩ (.int .u8 0)).setCell ⟨gb201, 5, none⟩ (.int .u8 0)).setCell ⟨gb201, 6, none⟩ (.int .u8 0)).setCell ⟨gb201, 7, none⟩ (.int .u8 0)).setCell ⟨gb201, 8, none⟩ (.int .u8 0)).setCell ⟨gb201, 9, none⟩ (.int .u8 0)).setCell ⟨gb201, 10, none⟩ (.int .u8 0)).setCell ⟨gb201, 11, none⟩ (.int .u8 0)) = w42 at n0_ n1_ n2_ n3_ ⊢
         have BK188 := n0_
         have BK198 := n1_
         have BK201 := n2_
         have HB := n3_
         clear n0_ n1_ n2_ n3_
         have n0_ := Aside0.mk (zqai BK188.out)
         have n1_ := Aside0.mk (zqai BK198.out)
         have n2_ := Aside0.mk (zqai BK201.out)
         have n3_ := Aside0.mk (zqae HB.out)
         clear BK188
         clear BK198
         clear BK201
         clear HB
         have BK188 := n0_
         have BK198 := n1_
         have BK201 := n2_
         have HB := n3_
         clear n0_ n1_ n2_ n3_
         obtain ⟨i044, hi044, _, hsz44, _⟩ := info_parts info3
         obtain ⟨A44, hcut44, hA44, hC44⟩ := print_mid_of (P := Try.prog) (Value.int .i64) 0 25 3 .i64 .i64 Try.underlying25 hi044 hsz44 (some ad191) c0 l0 14 32 (by omega) (by first | omega | exact of_decide_eq_true (by first | (with_reducible assumption) | assumption)) (of_decide_eq_true (by first | (with_reducible assumption) | assumption)) HC0.out
         have HR202 := Aside0.mk (Kd.C_of_reads (h1 := fun _ => rfl) (hA44 _ (Kd.reads_of_C HR0.out)))
         have HC202 := Aside0.mk hC44
         clear hA44 hC44 hi044 hsz44
         refine start_ (n := 9) (S := fun w' => w'.cell? ⟨gb201, 0, none⟩ = some (.int .i64 t200) ∧ w'.cell? ⟨gb201, 1, none⟩ = some (.bool true) ∧ w'.cell? ⟨gb201, 2, none⟩ = some (.bool t193) ∧ w'.cell? ⟨gb201, 3, none⟩ = some (.int .i64 t196) ∧ w'.cell? ⟨gb201, 4, none⟩ = some (.int .u8 0) ∧ w'.cell? ⟨gb201, 5, none⟩ = some (.int .u8 0) ∧ w'.cell? ⟨gb201, 6, none⟩ = some (.int .u8 0) ∧ w'.cell? ⟨gb201, 7, none⟩ = some (.int .u8 0) ∧ w'.cell? ⟨gb201, 8, none⟩ = some (.int .u8 0) ∧ w'.cell? ⟨gb201, 9, none⟩ = some (.int .u8 0) ∧ w'.cell? ⟨gb201, 10, none⟩ = some (.int .u8 0) ∧ w'.cell? ⟨gb201, 11, none⟩ = some (.int .u8 0)) (ds := [8]) #[false, false, false, false, false, false, false, false, false] (by kernel_rfl) rfl rfl ⟨(zqab BK201.out 0).trans rfl, (zqab BK201.out 1).trans rfl, (zqab BK201.out 2).trans rfl, (zqab BK201.out 3).trans rfl, (zqab BK201.out 4).trans rfl, (zqab BK201.out 5).trans rfl, (zqab BK201.out 6).trans rfl, (zqab BK201.out 7).trans rfl, (zqab BK201.out 8).trans rfl, (zqab BK201.out 9).trans rfl, (zqab BK201.out 10).trans rfl, (zqab BK201.out 11).trans rfl⟩ (fun hHeld => ?_); refine with_tabW field_Frame.tab11 field_Frame.bits11 (fun HT_ HW_ => ?_)
         generalize w42.drew = w43 at BK188 BK198 BK201 HB HR202 hHeld ⊢
         refine pure_ (i := 0) (N := some 49) (v := ?_) (a' := ?_) #[true, false, false, false, false, false, false, false, false] rfl rfl (any_of HT_.out (by kernel_rfl)) (fun _ _ _ h => h) (Or.inl ⟨by rfl, ?_⟩) ?_ ?_
         rotate_left
         ·
          intro w'
          go_simp
          with_reducible rfl
         rotate_left
         ·
          simp only [Act.put, List.setIfInBounds_toArray, List.set_cons_zero, List.set_cons_succ, i64_w, i32_w]
          rfl
         refine pure_ (i := 3) (N := some 52) (v := ?_) (a' := ?_) #[true, false, false, true, false, false, false, false, false] rfl rfl (any_of HT_.out (by kernel_rfl)) (fun _ _ _ h => h) (Or.inl ⟨by rfl, ?_⟩) ?_ ?_
         rotate_left
         ·
          intro w'
          go_simp
          with_reducible rfl
         rotate_left
         ·
          simp only [Act.put, List.setIfInBounds_toArray, List.set_cons_zero, List.set_cons_succ, i64_w, i32_w]
          rfl
         refine pure_ (i := 4) (N := some 53) (v := ?_) (a' := ?_) #[true, false, false, true, true, false, false, false, false] rfl rfl (any_of HT_.out (by kernel_rfl)) (fun _ _ _ h => h) (Or.inl ⟨by rfl, ?_⟩) ?_ ?_
         rotate_left
         ·
          intro w'
          go_simp
          with_reducible rfl
         rotate_left
         ·
          simp only [Act.put, List.setIfInBounds_toArray, List.set_cons_zero, List.set_cons_succ, i64_w, i32_w]
          rfl
         refine take_ (i := 1) (N := some 50) (v := ?_) (a' := ?_) #[true, true, false, true, true, false, false, false, false] rfl rfl (take_ofW HT_.out HW_.out (by kernel_rfl)) (fun _ _ _ h => h) (Or.inl ⟨by rfl, ?_⟩) hHeld ?_ ?_
         rotate_left
         ·
          rintro w' ⟨s0, s1, s2, s3, s4, s5, s6, s7, s8, s9, s10, s11⟩
          go_simp
          with_reducible rfl
         rotate_left
         ·
          simp only [Act.put, List.setIfInBounds_toArray, List.set_cons_zero, List.set_cons_succ, i64_w, i32_w]
          rfl
         refine pure_ (i := 2) (N := some 51) (v := ?_) (a' := ?_) #[true, true, true, true, true, false, false, false, false] rfl rfl (any_of HT_.out (by kernel_rfl)) (fun _ _ _ h => h) (Or.inl ⟨by rfl, ?_⟩) ?_ ?_
         rotate_left
         ·
          intro w'
          go_simp
          with_reducible rfl
         rotate_left
         ·
          simp only [Act.put, List.setIfInBounds_toArray, List.set_cons_zero, List.set_cons_succ, i64_w, i32_w]
          rfl
         refine one_ (i := 5) (N := some 54) #[true, true, true, true, true, true, false, false, false] rfl rfl (one_of HT_.out (by kernel_rfl)) (by decide) (fun K hK => ?_)
         refine goes_ Try.func57 (by kernel_rfl) rfl #[.slice A44 ((l0.take 32).drop 14).length (c0 - 14)] (by rfl) rfl rfl (by (try simp only [List.map_toArray, List.map_cons, List.map_nil]); first | done | (rw [show ((l0.take 32).drop 14).length = (32 - 14) from (by rw [List.length_drop, List.length_take]; have h_ : (32 : Int) ≤ (l0.length : Int) := of_decide_eq_true (by first | (with_reducible assumption) | assumption); omega)] <;> rfl) | rfl | (simp only [List.length_drop, List.length_take]; rfl)) ?_
         with_reducible refine (field_value.calls k _ _ ((l0.take 32).drop 14) t203 _ ?side1 ?side2 A41.out).mono ?_
         (case side1 => repeat (first | exact (Kd.C_below HR202.out HB.out) | (with_reducible refine Kd.C_alloc ?_ _) | (with_reducible refine Kd.C_drewN ?_ _) | (with_reducible refine Kd.C_drew ?_)))
         (case side2 => exact HC202.out)
         rintro e w' ⟨rfl, ⟨nd, rfl⟩⟩
         refine ⟨_, rfl, ?_⟩
         refine hK.out _ _ ⟨(zqab BK201.out 0).trans rfl, (zqab BK201.out 1).trans rfl, (zqab BK201.out 2).trans rfl, (zqab BK201.out 3).trans rfl, (zqab BK201.out 4).trans rfl, (zqab BK201.out 5).trans rfl, (zqab BK201.out 6).trans rfl, (zqab BK201.out 7).trans rfl, (zqab BK201.out 8).trans rfl, (zqab BK201.out 9).trans rfl, (zqab BK201.out 10).trans rfl, (zqab BK201.out 11).trans rfl⟩ (fun hHeld => ?_)
         clear hK K
         refine norm_ (a' := ?_) ?_ ?_
         rotate_left
         ·
          show Act.put _ (some 54) _ = _
          simp only [Act.put, List.setIfInBounds_toArray, List.set_cons_zero, List.set_cons_succ, i64_w, i32_w]
          rfl
         refine pure_ (i := 6) (N := some 55) (v := ?_) (a' := ?_) #[true, true, true, true, true, true, true, false, false] rfl rfl (any_of HT_.out (by kernel_rfl)) (fun _ _ _ h => h) (Or.inl ⟨by rfl, ?_⟩) ?_ ?_
         rotate_left
         ·
          intro w'
          go_simp
          with_reducible rfl
         rotate_left
         ·
          simp only [Act.put, List.setIfInBounds_toArray, List.set_cons_zero, List.set_cons_succ, i64_w, i32_w]
          rfl
         refine pure_ (i := 7) (N := some 56) (v := ?_) (a' := ?_) #[true, true, true, true, true, true, true, true, false] rfl rfl (any_of HT_.out (by kernel_rfl)) (fun _ _ _ h => h) (Or.inl ⟨by rfl, ?_⟩) ?_ ?_
         rotate_left
         ·
          intro w'
          go_simp
          with_reducible rfl
         rotate_left
         ·
          simp only [Act.put, List.setIfInBounds_toArray, List.set_cons_zero, List.set_cons_succ, i64_w, i32_w]
          rfl
         refine last_ (i := 8) (N := none) #[true, true, true, true, true, true, true, true, true] rfl rfl (one_of HT_.out (by kernel_rfl)) (by decide) (fun K hK => ?_)
         have hs45 : w43.cell? ⟨gb201, 0, none⟩ = some (.int .i64 t200) := (zqab BK201.out 0).trans rfl
         have hfs45 := zqaa BK201.out 0
         have hns45_0 := NB188_201.out
         have hns45_1 := NB198_201.out
         have hms45_0 := NB201_188.out
         have hms45_1 := NB201_198.out
         refine skip_ (w1 := ?_) (by rfl) rfl ?_ ?_
         rotate_left
         ·
          go_simp
          rfl
         refine hK.out _ _ ?_
         clear hK K
         refine done_ (done_of HT_.out (by kernel_rfl)) ?_
         try go_wp2
         go_meet
         case rel => exact ⟨_, (Go.bits .or .i64 (wrap64 (t200 * 262144)) t203), H', ⟨by first | omega | exact Nat.le_refl _⟩, ⟨by (with_reducible repeat (first | refine zqag ?_ _ | refine zqai ?_ | refine zqaf ?_ _)); refine zqas ?_ NB188_201.out _; (with_reducible repeat (first | refine zqag ?_ _ | refine zqai ?_ | refine zqaf ?_ _)); exact BK188.out⟩, ⟨by (with_reducible repeat (first | refine zqag ?_ _ | refine zqai ?_ | refine zqaf ?_ _)); refine zqas ?_ NB198_201.out _; (with_reducible repeat (first | refine zqag ?_ _ | refine zqai ?_ | refine zqaf ?_ _)); exact BK198.out⟩, ⟨by (with_reducible repeat (first | refine zqag ?_ _ | refine zqai ?_ | refine zqaf ?_ _)); refine zqan (cs := #[.int .i64 t200, .bool true, .bool t193, .int .i64 t196, .int .u8 0, .int .u8 0, .int .u8 0, .int .u8 0, .int .u8 0, .int .u8 0, .int .u8 0, .int .u8 0]) ?_ 0 _ rfl; (with_reducible repeat (first | refine zqag ?_ _ | refine zqai ?_ | refine zqaf ?_ _)); exact BK201.out⟩, ⟨by repeat (with_reducible first | exact HB.out | apply zqad | apply zqac | apply zqae | refine zqah ?_ GE188.out | refine zqah ?_ GE198.out | refine zqah ?_ GE201.out)⟩⟩
        ·
         rw [if_neg c40] at H
         exact absurd H (by simp)
       ·
        replace c39 := Bool.eq_false_iff.mpr c39
        subst c39
        have H1 : (field_Frame.j0 k l0 t189 false t193 t194 t195 t196 t200 false t193 t196 0 0 0 0 0 0 0 0) = some (r1, r2, r3, r4, r5, r6, r7, r8, r9, r10, r11, r12, r13) := by rw [if_neg (show ¬ (false = true) by decide)] at H; exact H
        clear H
        have H := H1
        clear H1
        have H' := Aside0.mk H
        clear H
        go_wp2
        go_meet
        case rel => exact ⟨_, (t200), H', ⟨by first | omega | exact Nat.le_refl _⟩, ⟨by (with_reducible repeat (first | refine zqag ?_ _ | refine zqai ?_ | refine zqaf ?_ _)); refine zqas ?_ NB188_201.out _; (with_reducible repeat (first | refine zqag ?_ _ | refine zqai ?_ | refine zqaf ?_ _)); refine zqas ?_ NB188_201.out _; (with_reducible repeat (first | refine zqag ?_ _ | refine zqai ?_ | refine zqaf ?_ _)); refine zqas ?_ NB188_201.out _; (with_reducible repeat (first | refine zqag ?_ _ | refine zqai ?_ | refine zqaf ?_ _)); refine zqas ?_ NB188_201.out _; (with_reducible repeat (first | refine zqag ?_ _ | refine zqai ?_ | refine zqaf ?_ _)); refine zqas ?_ NB188_201.out _; (with_reducible repeat (first | refine zqag ?_ _ | refine zqai ?_ | refine zqaf ?_ _)); refine zqas ?_ NB188_201.out _; (with_reducible repeat (first | refine zqag ?_ _ | refine zqai ?_ | refine zqaf ?_ _)); refine zqas ?_ NB188_201.out _; (with_reducible repeat (first | refine zqag ?_ _ | refine zqai ?_ | refine zqaf ?_ _)); refine zqas ?_ NB188_201.out _; (with_reducible repeat (first | refine zqag ?_ _ | refine zqai ?_ | refine zqaf ?_ _)); refine zqas ?_ NB188_201.out _; (with_reducible repeat (first | refine zqag ?_ _ | refine zqai ?_ | refine zqaf ?_ _)); refine zqas ?_ NB188_201.out _; (with_reducible repeat (first | refine zqag ?_ _ | refine zqai ?_ | refine zqaf ?_ _)); refine zqas ?_ NB188_201.out _; (with_reducible repeat (first | refine zqag ?_ _ | refine zqai ?_ | refine zqaf ?_ _)); refine zqas ?_ NB188_201.out _; (with_reducible repeat (first | refine zqag ?_ _ | refine zqai ?_ | refine zqaf ?_ _)); exact BK188.out⟩, ⟨by (with_reducible repeat (first | refine zqag ?_ _ | refine zqai ?_ | refine zqaf ?_ _)); refine zqas ?_ NB198_201.out _; (with_reducible repeat (first | refine zqag ?_ _ | refine zqai ?_ | refine zqaf ?_ _)); refine zqas ?_ NB198_201.out _; (with_reducible repeat (first | refine zqag ?_ _ | refine zqai ?_ | refine zqaf ?_ _)); refine zqas ?_ NB198_201.out _; (with_reducible repeat (first | refine zqag ?_ _ | refine zqai ?_ | refine zqaf ?_ _)); refine zqas ?_ NB198_201.out _; (with_reducible repeat (first | refine zqag ?_ _ | refine zqai ?_ | refine zqaf ?_ _)); refine zqas ?_ NB198_201.out _; (with_reducible repeat (first | refine zqag ?_ _ | refine zqai ?_ | refine zqaf ?_ _)); refine zqas ?_ NB198_201.out _; (with_reducible repeat (first | refine zqag ?_ _ | refine zqai ?_ | refine zqaf ?_ _)); refine zqas ?_ NB198_201.out _; (with_reducible repeat (first | refine zqag ?_ _ | refine zqai ?_ | refine zqaf ?_ _)); refine zqas ?_ NB198_201.out _; (with_reducible repeat (first | refine zqag ?_ _ | refine zqai ?_ | refine zqaf ?_ _)); refine zqas ?_ NB198_201.out _; (with_reducible repeat (first | refine zqag ?_ _ | refine zqai ?_ | refine zqaf ?_ _)); refine zqas ?_ NB198_201.out _; (with_reducible repeat (first | refine zqag ?_ _ | refine zqai ?_ | refine zqaf ?_ _)); refine zqas ?_ NB198_201.out _; (with_reducible repeat (first | refine zqag ?_ _ | refine zqai ?_ | refine zqaf ?_ _)); refine zqas ?_ NB198_201.out _; (with_reducible repeat (first | refine zqag ?_ _ | refine zqai ?_ | refine zqaf ?_ _)); exact BK198.out⟩, ⟨by (with_reducible repeat (first | refine zqag ?_ _ | refine zqai ?_ | refine zqaf ?_ _)); refine zqan (cs := #[.int .i64 t200, .bool false, .bool t193, .int .i64 t196, .int .u8 0, .int .u8 0, .int .u8 0, .int .u8 0, .int .u8 0, .int .u8 0, .int .u8 0, .int .u8 0]) ?_ 11 _ rfl; (with_reducible repeat (first | refine zqag ?_ _ | refine zqai ?_ | refine zqaf ?_ _)); refine zqan (cs := #[.int .i64 t200, .bool false, .bool t193, .int .i64 t196, .int .u8 0, .int .u8 0, .int .u8 0, .int .u8 0, .int .u8 0, .int .u8 0, .int .u8 0, .int .u8 0]) ?_ 10 _ rfl; (with_reducible repeat (first | refine zqag ?_ _ | refine zqai ?_ | refine zqaf ?_ _)); refine zqan (cs := #[.int .i64 t200, .bool false, .bool t193, .int .i64 t196, .int .u8 0, .int .u8 0, .int .u8 0, .int .u8 0, .int .u8 0, .int .u8 0, .int .u8 0, .int .u8 0]) ?_ 9 _ rfl; (with_reducible repeat (first | refine zqag ?_ _ | refine zqai ?_ | refine zqaf ?_ _)); refine zqan (cs := #[.int .i64 t200, .bool false, .bool t193, .int .i64 t196, .int .u8 0, .int .u8 0, .int .u8 0, .int .u8 0, .int .u8 0, .int .u8 0, .int .u8 0, .int .u8 0]) ?_ 8 _ rfl; (with_reducible repeat (first | refine zqag ?_ _ | refine zqai ?_ | refine zqaf ?_ _)); refine zqan (cs := #[.int .i64 t200, .bool false, .bool t193, .int .i64 t196, .int .u8 0, .int .u8 0, .int .u8 0, .int .u8 0, .int .u8 0, .int .u8 0, .int .u8 0, .int .u8 0]) ?_ 7 _ rfl; (with_reducible repeat (first | refine zqag ?_ _ | refine zqai ?_ | refine zqaf ?_ _)); refine zqan (cs := #[.int .i64 t200, .bool false, .bool t193, .int .i64 t196, .int .u8 0, .int .u8 0, .int .u8 0, .int .u8 0, .int .u8 0, .int .u8 0, .int .u8 0, .int .u8 0]) ?_ 6 _ rfl; (with_reducible repeat (first | refine zqag ?_ _ | refine zqai ?_ | refine zqaf ?_ _)); refine zqan (cs := #[.int .i64 t200, .bool false, .bool t193, .int .i64 t196, .int .u8 0, .int .u8 0, .int .u8 0, .int .u8 0, .int .u8 0, .int .u8 0, .int .u8 0, .int .u8 0]) ?_ 5 _ rfl; (with_reducible repeat (first | refine zqag ?_ _ | refine zqai ?_ | refine zqaf ?_ _)); refine zqan (cs := #[.int .i64 t200, .bool false, .bool t193, .int .i64 t196, .int .u8 0, .int .u8 0, .int .u8 0, .int .u8 0, .int .u8 0, .int .u8 0, .int .u8 0, .int .u8 0]) ?_ 4 _ rfl; (with_reducible repeat (first | refine zqag ?_ _ | refine zqai ?_ | refine zqaf ?_ _)); refine zqan (cs := #[.int .i64 t200, .bool false, .bool t193, .int .i64 0, .int .u8 0, .int .u8 0, .int .u8 0, .int .u8 0, .int .u8 0, .int .u8 0, .int .u8 0, .int .u8 0]) ?_ 3 _ rfl; (with_reducible repeat (first | refine zqag ?_ _ | refine zqai ?_ | refine zqaf ?_ _)); refine zqan (cs := #[.int .i64 t200, .bool false, .bool false, .int .i64 0, .int .u8 0, .int .u8 0, .int .u8 0, .int .u8 0, .int .u8 0, .int .u8 0, .int .u8 0, .int .u8 0]) ?_ 2 _ rfl; (with_reducible repeat (first | refine zqag ?_ _ | refine zqai ?_ | refine zqaf ?_ _)); refine zqan (cs := #[.int .i64 t200, .bool false, .bool false, .int .i64 0, .int .u8 0, .int .u8 0, .int .u8 0, .int .u8 0, .int .u8 0, .int .u8 0, .int .u8 0, .int .u8 0]) ?_ 1 _ rfl; (with_reducible repeat (first | refine zqag ?_ _ | refine zqai ?_ | refine zqaf ?_ _)); refine zqan (cs := #[.int .i64 0, .bool false, .bool false, .int .i64 0, .int .u8 0, .int .u8 0, .int .u8 0, .int .u8 0, .int .u8 0, .int .u8 0, .int .u8 0, .int .u8 0]) ?_ 0 _ rfl; (with_reducible repeat (first | refine zqag ?_ _ | refine zqai ?_ | refine zqaf ?_ _)); exact BK201.out⟩, ⟨by repeat (with_reducible first | exact HB.out | apply zqad | apply zqac | apply zqae | refine zqah ?_ GE188.out | refine zqah ?_ GE198.out | refine zqah ?_ GE201.out)⟩⟩
      case rest =>
       clear HC13
       try clear c1
       try clear p1
       try clear q1
       try clear hx1
       try clear qi1
       try clear c2
       try clear p2
       try clear c3
       try clear c3b0
       try clear c3b1
       try clear c4
       try clear c4b0
       try clear c5
       try clear p6
       try clear c8
       try clear c8b0
       try clear c8b1
       try clear c9
       try clear c9b0
       try clear c9b1
       try clear c11
       try clear c11b0
       try clear c11b1
       try clear c18
       try clear p19
       try clear q19
       try clear hx19
       try clear qi19
       try clear c24
       try clear c29
       try clear c37
       try clear c39
       try clear c40
       try clear c40b0
       try clear c40b1
       try clear hcz19_0
       try clear hcz19_1
       try clear hcz19_2
       try clear hcz19_3
       try clear hcz19_4
       try clear hcz38_0
       try clear hcz38_1
       try clear hcz38_2
       try clear hcz38_3
       try clear hcz38_4
       try clear hcz7_0
       try clear hcz7_1
       try clear hcz7_10
       try clear hcz7_11
       try clear hcz7_2
       try clear hcz7_3
       try clear hcz7_4
       try clear hcz7_5
       try clear hcz7_6
       try clear hcz7_7
       try clear hcz7_8
       try clear hcz7_9
       try clear hfz19_0
       try clear hfz19_1
       try clear hfz19_2
       try clear hfz19_3
       try clear hfz19_4
       try clear hfz38_0
       try clear hfz38_1
       try clear hfz38_2
       try clear hfz38_3
       try clear hfz38_4
       try clear hfz7_0
       try clear hfz7_1
       try clear hfz7_10
       try clear hfz7_11
       try clear hfz7_2
       try clear hfz7_3
       try clear hfz7_4
       try clear hfz7_5
       try clear hfz7_6
       try clear hfz7_7
       try clear hfz7_8
       try clear hfz7_9
       try clear hx191_0
       try clear p191
       try clear q191
       obtain ⟨kq, x202000_12, HA, HJ12, BK188, BK198, BK201, HB⟩ := hcut
       cases kq with
       | zero => exact absurd HA.out (by simp [field_Frame.j0])
       | succ kj12 =>
        have H := HA.out
        clear HA
        simp only [field_Frame.j0] at H
        have H' := Aside0.mk H
        clear H
        have hnb46 := NB198_188.out
        have hnc46 := NB188_198.out
        have hnb47 := NB198_201.out
        have hnc47 := NB201_198.out
        have hcz48_0 : wc.cell? ⟨gb198, 0, none⟩ = some (.bool t192) := (zqab BK198.out 0).trans rfl
        have hcz48_1 : wc.cell? ⟨gb198, 1, none⟩ = some (.bool t193) := (zqab BK198.out 1).trans rfl
        have hcz48_2 : wc.cell? ⟨gb198, 2, none⟩ = some (.int .i64 t194) := (zqab BK198.out 2).trans rfl
        have hcz48_3 : wc.cell? ⟨gb198, 3, none⟩ = some (.int .i64 t195) := (zqab BK198.out 3).trans rfl
        have hcz48_4 : wc.cell? ⟨gb198, 4, none⟩ = some (.int .i64 t196) := (zqab BK198.out 4).trans rfl
        have hfz48_0 := zqaa BK198.out 0
        have hfz48_1 := zqaa BK198.out 1
        have hfz48_2 := zqaa BK198.out 2
        have hfz48_3 := zqaa BK198.out 3
        have hfz48_4 := zqaa BK198.out 4
        go_wp2
        go_loopg [62] kj12 (fun kq v62 w' => ∃ (x62_2 : Int) (x202004_2 : Int) (x202005_2 : Int) (x202006_2 : Int) (x202007_2 : Int) (x202008_2 : Int) (x202009_2 : Int) (x202010_2 : Int) (x202011_2 : Int), v62 = .int .i64 x62_2 ∧ Aside0 (field_Frame.l0 kq l0 (wrap64 (Int.tdiv (wrap64 (t189 - t195)) 8)) x62_2 t192 t193 t194 t195 t196 x202000_12 t192 t193 t196 x202004_2 x202005_2 x202006_2 x202007_2 x202008_2 x202009_2 x202010_2 x202011_2 = some (r1, r2, r3, r4, r5, r6, r7, r8, r9, r10, r11, r12, r13)) ∧ Aside0 (kq ≤ kj12) ∧ Aside0 (w'.heap[gb188]? = some (.cells #[.int .i64 0, .bool false, .bool false, .int .i64 0, .int .u8 0, .int .u8 0, .int .u8 0, .int .u8 0, .int .u8 0, .int .u8 0, .int .u8 0, .int .u8 0] 24 (0, 0))) ∧ Aside0 (w'.heap[gb198]? = some (.cells #[.bool t192, .bool t193, .int .i64 t194, .int .i64 t195, .int .i64 t196] 72 (0, 0))) ∧ Aside0 (w'.heap[gb201]? = some (.cells #[.int .i64 x202000_12, .bool t192, .bool t193, .int .i64 t196, .int .u8 x202004_2, .int .u8 x202005_2, .int .u8 x202006_2, .int .u8 x202007_2, .int .u8 x202008_2, .int .u8 x202009_2, .int .u8 x202010_2, .int .u8 x202011_2] 24 (0, 0))) ∧ Aside0 (Below w.heap.size w w'))
        case atStart => exact ⟨(0), (0), (0), (0), (0), (0), (0), (0), (0), (by first | rfl | (simp; done) | (simp [*]; done)), H', ⟨Nat.le_refl _⟩, ⟨by (with_reducible repeat (first | refine zqag ?_ _ | refine zqai ?_ | refine zqaf ?_ _)); exact BK188.out⟩, ⟨by (with_reducible repeat (first | refine zqag ?_ _ | refine zqai ?_ | refine zqaf ?_ _)); exact BK198.out⟩, ⟨by (with_reducible repeat (first | refine zqag ?_ _ | refine zqai ?_ | refine zqaf ?_ _)); exact BK201.out⟩, ⟨by repeat (with_reducible first | exact HB.out | apply zqad | apply zqac | apply zqae | refine zqah ?_ GE188.out | refine zqah ?_ GE198.out | refine zqah ?_ GE201.out)⟩⟩
        case round =>
         clear H'
         try clear c1
         try clear p1
         try clear q1
         try clear hx1
         try clear qi1
         try clear c2
         try clear p2
         try clear c3
         try clear c3b0
         try clear c3b1
         try clear c4
         try clear c4b0
         try clear c5
         try clear p6
         try clear c8
         try clear c8b0
         try clear c8b1
         try clear c9
         try clear c9b0
         try clear c9b1
         try clear c11
         try clear c11b0
         try clear c11b1
         try clear c18
         try clear p19
         try clear q19
         try clear hx19
         try clear qi19
         try clear c24
         try clear c29
         try clear c37
         try clear c39
         try clear c40
         try clear c40b0
         try clear c40b1
         try clear c46
         try clear c47
         try clear hcz19_0
         try clear hcz19_1
         try clear hcz19_2
         try clear hcz19_3
         try clear hcz19_4
         try clear hcz38_0
         try clear hcz38_1
         try clear hcz38_2
         try clear hcz38_3
         try clear hcz38_4
         try clear hcz48_0
         try clear hcz48_1
         try clear hcz48_2
         try clear hcz48_3
         try clear hcz48_4
         try clear hcz7_0
         try clear hcz7_1
         try clear hcz7_10
         try clear hcz7_11
         try clear hcz7_2
         try clear hcz7_3
         try clear hcz7_4
         try clear hcz7_5
         try clear hcz7_6
         try clear hcz7_7
         try clear hcz7_8
         try clear hcz7_9
         try clear hfz19_0
         try clear hfz19_1
         try clear hfz19_2
         try clear hfz19_3
         try clear hfz19_4
         try clear hfz38_0
         try clear hfz38_1
         try clear hfz38_2
         try clear hfz38_3
         try clear hfz38_4
         try clear hfz48_0
         try clear hfz48_1
         try clear hfz48_2
         try clear hfz48_3
         try clear hfz48_4
         try clear hfz7_0
         try clear hfz7_1
         try clear hfz7_10
         try clear hfz7_11
         try clear hfz7_2
         try clear hfz7_3
         try clear hfz7_4
         try clear hfz7_5
         try clear hfz7_6
         try clear hfz7_7
         try clear hfz7_8
         try clear hfz7_9
         try clear hx191_0
         try clear p1
         try clear p19
         try clear p191
         try clear p2
         try clear p6
         try clear q1
         try clear q19
         try clear q191
         obtain ⟨x62_2, x202004_2, x202005_2, x202006_2, x202007_2, x202008_2, x202009_2, x202010_2, x202011_2, rfl, HA, HK2, BK188, BK198, BK201, HB⟩ := hrel
         cases gk with
         | zero => exact absurd HA.out (by simp [field_Frame.l0])
         | succ k2 =>
          have H := HA.out
          clear HA
          simp only [field_Frame.l0] at H
          by_cases c49 : x62_2 < (wrap64 (Int.tdiv (wrap64 (t189 - t195)) 8))
          ·
           rw [if_pos c49] at H
           have c49b0 : decide (x62_2 < (wrap64 (Int.tdiv (wrap64 (t189 - t195)) 8))) = true := decide_eq_true c49
           clear c49
           obtain ⟨ji50, hji50⟩ : ∃ j_ : Int, (wrap64 (t195 + (wrap64 (8 * x62_2)))) = j_ := ⟨_, rfl⟩
           replace H : (if 0 ≤ (ji50) then (if (ji50) ≤ (wrap64 (t195 + (wrap64 (8 * (wrap64 (x62_2 + 1)))))) then (if (wrap64 (t195 + (wrap64 (8 * (wrap64 (x62_2 + 1)))))) ≤ (l0.length : Int) then ((field_value.f k2 ((l0.take ((wrap64 (t195 + (wrap64 (8 * (wrap64 (x62_2 + 1)))))) : Int).toNat).drop ((ji50) : Int).toNat)).bind fun t205 => (if 0 ≤ x62_2 then (if x62_2 < 8 then (field_Frame.l0 k2 l0 (wrap64 (Int.tdiv (wrap64 (t189 - t195)) 8)) (wrap64 (x62_2 + 1)) t192 t193 t194 t195 t196 x202000_12 t192 t193 t196 (pk x62_2 0 ((t205) % 256) x202004_2) (pk x62_2 1 ((t205) % 256) x202005_2) (pk x62_2 2 ((t205) % 256) x202006_2) (pk x62_2 3 ((t205) % 256) x202007_2) (pk x62_2 4 ((t205) % 256) x202008_2) (pk x62_2 5 ((t205) % 256) x202009_2) (pk x62_2 6 ((t205) % 256) x202010_2) (pk x62_2 7 ((t205) % 256) x202011_2)) else (none)) else (none))) else (none)) else (none)) else (none)) = some (r1, r2, r3, r4, r5, r6, r7, r8, r9, r10, r11, r12, r13) := by first | (rw [hji50] at H; exact H) | (simp only [hji50] at H ⊢; exact H)
           have hji50w : (IntKind.i64.wrap (t195 + (wrap64 (8 * x62_2)))) = ji50 := (i64_w _).trans hji50
           by_cases c51 : 0 ≤ (ji50)
           ·
            rw [if_pos c51] at H
            have c51b0 := eq_true c51
            have c51b1 : decide (0 ≤ (ji50)) = true := decide_eq_true c51
            clear c51
            by_cases c52 : (ji50) ≤ (wrap64 (t195 + (wrap64 (8 * (wrap64 (x62_2 + 1))))))
            ·
             rw [if_pos c52] at H
             have c52b0 := eq_true c52
             have c52b1 : decide ((ji50) ≤ (wrap64 (t195 + (wrap64 (8 * (wrap64 (x62_2 + 1))))))) = true := decide_eq_true c52
             by_cases c53 : (wrap64 (t195 + (wrap64 (8 * (wrap64 (x62_2 + 1)))))) ≤ (l0.length : Int)
             ·
              rw [if_pos c53] at H
              have c53b0 := eq_true c53
              have c53b1 : decide ((wrap64 (t195 + (wrap64 (8 * (wrap64 (x62_2 + 1)))))) ≤ (l0.length : Int)) = true := decide_eq_true c53
              replace H := Option.bind_eq_some_iff.mp H
              obtain ⟨t205, A540, H⟩ := H
              replace H : (if 0 ≤ x62_2 then (if x62_2 < 8 then (field_Frame.l0 k2 l0 (wrap64 (Int.tdiv (wrap64 (t189 - t195)) 8)) (wrap64 (x62_2 + 1)) t192 t193 t194 t195 t196 x202000_12 t192 t193 t196 (pk x62_2 0 ((t205) % 256) x202004_2) (pk x62_2 1 ((t205) % 256) x202005_2) (pk x62_2 2 ((t205) % 256) x202006_2) (pk x62_2 3 ((t205) % 256) x202007_2) (pk x62_2 4 ((t205) % 256) x202008_2) (pk x62_2 5 ((t205) % 256) x202009_2) (pk x62_2 6 ((t205) % 256) x202010_2) (pk x62_2 7 ((t205) % 256) x202011_2)) else (none)) else (none)) = some (r1, r2, r3, r4, r5, r6, r7, r8, r9, r10, r11, r12, r13) := H
              have A54 := Aside0.mk A540
              clear A540
              by_cases c55 : 0 ≤ x62_2
              ·
               rw [if_pos c55] at H
               have c55b0 : decide (0 ≤ x62_2) = true := decide_eq_true c55
               clear c55
               by_cases c56 : x62_2 < 8
               ·
                rw [if_pos c56] at H
                have c56b0 : decide (x62_2 < 8) = true := decide_eq_true c56
                clear c56
                have H' := Aside0.mk H
                clear H
                have hnb57 := NB198_188.out
                have hnc57 := NB188_198.out
                have hnb58 := NB198_201.out
                have hnc58 := NB201_198.out
                have hcz59_0 : wr.cell? ⟨gb198, 0, none⟩ = some (.bool t192) := (zqab BK198.out 0).trans rfl
                have hcz59_1 : wr.cell? ⟨gb198, 1, none⟩ = some (.bool t193) := (zqab BK198.out 1).trans rfl
                have hcz59_2 : wr.cell? ⟨gb198, 2, none⟩ = some (.int .i64 t194) := (zqab BK198.out 2).trans rfl
                have hcz59_3 : wr.cell? ⟨gb198, 3, none⟩ = some (.int .i64 t195) := (zqab BK198.out 3).trans rfl
                have hcz59_4 : wr.cell? ⟨gb198, 4, none⟩ = some (.int .i64 t196) := (zqab BK198.out 4).trans rfl
                have hfz59_0 := zqaa BK198.out 0
                have hfz59_1 := zqaa BK198.out 1
                have hfz59_2 := zqaa BK198.out 2
                have hfz59_3 := zqaa BK198.out 3
                have hfz59_4 := zqaa BK198.out 4
                obtain ⟨i060, hi060, _, hsz60, _⟩ := info_parts info3
                obtain ⟨A60, hcut60, hA60, hC60⟩ := print_mid_of (P := Try.prog) (Value.int .i64) 0 25 3 .i64 .i64 Try.underlying25 hi060 hsz60 (some ad191) c0 l0 (ji50) (wrap64 (t195 + (wrap64 (8 * (wrap64 (x62_2 + 1)))))) (of_decide_eq_true (by first | (with_reducible assumption) | assumption)) (by first | omega | exact of_decide_eq_true (by first | (with_reducible assumption) | assumption)) (of_decide_eq_true (by first | (with_reducible assumption) | assumption)) HC0.out
                have HR204 := Aside0.mk (Kd.C_of_reads (h1 := fun _ => rfl) (hA60 _ (Kd.reads_of_C HR0.out)))
                have HC204 := Aside0.mk hC60
                clear hA60 hC60 hi060 hsz60
                go_wp2_with (first | ((with_reducible refine zqal (f := 57) rfl ?_); refine goesL_ (some 79) rfl rfl Try.func57 (by kernel_rfl) rfl #[.slice A60 ((l0.take ((wrap64 (t195 + (wrap64 (8 * (wrap64 (x62_2 + 1)))))) : Int).toNat).drop ((ji50) : Int).toNat).length (c0 - (ji50).toNat)] rfl (by (try simp only [List.map_toArray, List.map_cons, List.map_nil]); first | done | (rw [show ((l0.take ((wrap64 (t195 + (wrap64 (8 * (wrap64 (x62_2 + 1)))))) : Int).toNat).drop ((ji50) : Int).toNat).length = ((wrap64 (t195 + (wrap64 (8 * (wrap64 (x62_2 + 1)))))).toNat - (ji50).toNat) from (by rw [List.length_drop, List.length_take]; have h_ : ((wrap64 (t195 + (wrap64 (8 * (wrap64 (x62_2 + 1)))))) : Int) ≤ (l0.length : Int) := of_decide_eq_true (by first | (with_reducible assumption) | assumption); omega)] <;> rfl) | (simp only [hji50]; rfl) | rfl | (simp only [List.length_drop, List.length_take]; rfl)) ?_; (with_reducible refine (field_value.calls k2 _ _ ((l0.take ((wrap64 (t195 + (wrap64 (8 * (wrap64 (x62_2 + 1)))))) : Int).toNat).drop ((ji50) : Int).toNat) t205 _ ?side1 ?side2 A54.out).mono ?_); (case side1 => repeat (first | exact (Kd.C_below HR204.out HB.out) | (with_reducible refine Kd.C_alloc ?_ _) | (with_reducible refine Kd.C_drewN ?_ _) | (with_reducible refine Kd.C_drew ?_))); (case side2 => exact HC204.out); rintro e w' ⟨rfl, ⟨nd, rfl⟩⟩; refine ⟨_, rfl, ?_⟩; (try (rw [drewN_self wr]; generalize hq_ : World.drewN wr _ = wr; have n0_ : Aside0 (wr.heap[gb188]? = some (.cells #[.int .i64 0, .bool false, .bool false, .int .i64 0, .int .u8 0, .int .u8 0, .int .u8 0, .int .u8 0, .int .u8 0, .int .u8 0, .int .u8 0, .int .u8 0] 24 (0, 0))) := ⟨by rw [← hq_]; exact (by (with_reducible repeat (first | refine zqag ?_ _ | refine zqai ?_ | refine zqaf ?_ _)); exact BK188.out)⟩; have n1_ : Aside0 (wr.heap[gb198]? = some (.cells #[.bool t192, .bool t193, .int .i64 t194, .int .i64 t195, .int .i64 t196] 72 (0, 0))) := ⟨by rw [← hq_]; exact (by (with_reducible repeat (first | refine zqag ?_ _ | refine zqai ?_ | refine zqaf ?_ _)); exact BK198.out)⟩; have n2_ : Aside0 (wr.heap[gb201]? = some (.cells #[.int .i64 x202000_12, .bool t192, .bool t193, .int .i64 t196, .int .u8 x202004_2, .int .u8 x202005_2, .int .u8 x202006_2, .int .u8 x202007_2, .int .u8 x202008_2, .int .u8 x202009_2, .int .u8 x202010_2, .int .u8 x202011_2] 24 (0, 0))) := ⟨by rw [← hq_]; exact (by (with_reducible repeat (first | refine zqag ?_ _ | refine zqai ?_ | refine zqaf ?_ _)); exact BK201.out)⟩; have n3_ : Aside0 (Below w.heap.size w wr) := ⟨by rw [← hq_]; exact (by repeat (with_reducible first | exact HB.out | apply zqad | apply zqac | apply zqae | refine zqah ?_ GE188.out | refine zqah ?_ GE198.out | refine zqah ?_ GE201.out))⟩; clear BK188 BK198 BK201 HB hq_; have BK188 := n0_; have BK198 := n1_; have BK201 := n2_; have HB := n3_; clear n0_ n1_ n2_ n3_)); have hnb61 := NB201_188.out; have hnc61 := NB188_201.out; have hcz62_0 : wr.cell? ⟨gb201, 0, none⟩ = some (.int .i64 x202000_12) := (zqab BK201.out 0).trans rfl; have hcz62_1 : wr.cell? ⟨gb201, 1, none⟩ = some (.bool t192) := (zqab BK201.out 1).trans rfl; have hcz62_2 : wr.cell? ⟨gb201, 2, none⟩ = some (.bool t193) := (zqab BK201.out 2).trans rfl; have hcz62_3 : wr.cell? ⟨gb201, 3, none⟩ = some (.int .i64 t196) := (zqab BK201.out 3).trans rfl; have hcz62_4 : wr.cell? ⟨gb201, 4, none⟩ = some (.int .u8 x202004_2) := (zqab BK201.out 4).trans rfl; have hcz62_5 : wr.cell? ⟨gb201, 5, none⟩ = some (.int .u8 x202005_2) := (zqab BK201.out 5).trans rfl; have hcz62_6 : wr.cell? ⟨gb201, 6, none⟩ = some (.int .u8 x202006_2) := (zqab BK201.out 6).trans rfl; have hcz62_7 : wr.cell? ⟨gb201, 7, none⟩ = some (.int .u8 x202007_2) := (zqab BK201.out 7).trans rfl; have hcz62_8 : wr.cell? ⟨gb201, 8, none⟩ = some (.int .u8 x202008_2) := (zqab BK201.out 8).trans rfl; have hcz62_9 : wr.cell? ⟨gb201, 9, none⟩ = some (.int .u8 x202009_2) := (zqab BK201.out 9).trans rfl; have hcz62_10 : wr.cell? ⟨gb201, 10, none⟩ = some (.int .u8 x202010_2) := (zqab BK201.out 10).trans rfl; have hcz62_11 : wr.cell? ⟨gb201, 11, none⟩ = some (.int .u8 x202011_2) := (zqab BK201.out 11).trans rfl; have hfz62_0 := zqaa BK201.out 0; have hfz62_1 := zqaa BK201.out 1; have hfz62_2 := zqaa BK201.out 2; have hfz62_3 := zqaa BK201.out 3; have hfz62_4 := zqaa BK201.out 4; have hfz62_5 := zqaa BK201.out 5; have hfz62_6 := zqaa BK201.out 6; have hfz62_7 := zqaa BK201.out 7; have hfz62_8 := zqaa BK201.out 8; have hfz62_9 := zqaa BK201.out 9; have hfz62_10 := zqaa BK201.out 10; have hfz62_11 := zqaa BK201.out 11; have hcy63 : wr.cell? ⟨gb201, 4 + (x62_2 : Int).toNat, none⟩ = some (.int .u8 (rd ([x202004_2, x202005_2, x202006_2, x202007_2, x202008_2, x202009_2, x202010_2, x202011_2] : List Int) x62_2)) := arr_int .u8 4 ([x202004_2, x202005_2, x202006_2, x202007_2, x202008_2, x202009_2, x202010_2, x202011_2] : List Int) BK201.out rfl (x62_2 : Int) (of_decide_eq_true (by first | (with_reducible assumption) | assumption)) (of_decide_eq_true (by first | (with_reducible assumption) | assumption)); have hfy63 := zqaa BK201.out (4 + (x62_2 : Int).toNat); have hpy63 : (0 ≤ (x62_2 : Int)) = True := eq_true (of_decide_eq_true (by first | (with_reducible assumption) | assumption)); have hqy63 : ((x62_2 : Int) < 8) = True := eq_true (of_decide_eq_true (by first | (with_reducible assumption) | assumption))))
                go_roundg k2
                case measure => have := HJ12.out; have := HK2.out; omega
                case rel => exact ⟨(wrap64 (x62_2 + 1)), (pk x62_2 0 ((t205) % 256) x202004_2), (pk x62_2 1 ((t205) % 256) x202005_2), (pk x62_2 2 ((t205) % 256) x202006_2), (pk x62_2 3 ((t205) % 256) x202007_2), (pk x62_2 4 ((t205) % 256) x202008_2), (pk x62_2 5 ((t205) % 256) x202009_2), (pk x62_2 6 ((t205) % 256) x202010_2), (pk x62_2 7 ((t205) % 256) x202011_2), (by first | rfl | (simp; done) | (simp [*]; done)), H', ⟨by have := HJ12.out; have := HK2.out; omega⟩, ⟨by (with_reducible repeat (first | refine zqag ?_ _ | refine zqai ?_ | refine zqaf ?_ _)); refine zqas ?_ NB188_201.out _; (with_reducible repeat (first | refine zqag ?_ _ | refine zqai ?_ | refine zqaf ?_ _)); exact BK188.out⟩, ⟨by (with_reducible repeat (first | refine zqag ?_ _ | refine zqai ?_ | refine zqaf ?_ _)); refine zqas ?_ NB198_201.out _; (with_reducible repeat (first | refine zqag ?_ _ | refine zqai ?_ | refine zqaf ?_ _)); exact BK198.out⟩, ⟨by (with_reducible repeat (first | refine zqag ?_ _ | refine zqai ?_ | refine zqaf ?_ _)); refine blk_putv (cs := #[.int .i64 x202000_12, .bool t192, .bool t193, .int .i64 t196, .int .u8 x202004_2, .int .u8 x202005_2, .int .u8 x202006_2, .int .u8 x202007_2, .int .u8 x202008_2, .int .u8 x202009_2, .int .u8 x202010_2, .int .u8 x202011_2]) ?_ _ _ (pk_set_4 .u8 _ _ (by first | (with_reducible assumption) | exact of_eq_true (by assumption) | exact of_decide_eq_true (by assumption)) (by first | (with_reducible assumption) | exact of_eq_true (by assumption) | exact of_decide_eq_true (by assumption))); (with_reducible repeat (first | refine zqag ?_ _ | refine zqai ?_ | refine zqaf ?_ _)); exact BK201.out⟩, ⟨by repeat (with_reducible first | exact HB.out | apply zqad | apply zqac | apply zqae | refine zqah ?_ GE188.out | refine zqah ?_ GE198.out | refine zqah ?_ GE201.out)⟩⟩
               ·
                rw [if_neg c56] at H
                exact absurd H (by simp)
              ·
               rw [if_neg c55] at H
               exact absurd H (by simp)
             ·
              rw [if_neg c53] at H
              exact absurd H (by simp)
            ·
             rw [if_neg c52] at H
             exact absurd H (by simp)
           ·
            rw [if_neg c51] at H
            exact absurd H (by simp)
          ·
           rw [if_neg c49] at H
           have c49b0 : decide (x62_2 < (wrap64 (Int.tdiv (wrap64 (t189 - t195)) 8))) = false := decide_eq_false c49
           clear c49
           simp only [Option.some.injEq, Prod.mk.injEq] at H
           obtain ⟨rfl, rfl, rfl, rfl, rfl, rfl, rfl, rfl, rfl, rfl, rfl, rfl, rfl⟩ := H
           have hnb64 := NB201_188.out
           have hnc64 := NB188_201.out
           have hnb65 := NB201_198.out
           have hnc65 := NB198_201.out
           have hcz66_0 : wr.cell? ⟨gb201, 0, none⟩ = some (.int .i64 x202000_12) := (zqab BK201.out 0).trans rfl
           have hcz66_1 : wr.cell? ⟨gb201, 1, none⟩ = some (.bool t192) := (zqab BK201.out 1).trans rfl
           have hcz66_2 : wr.cell? ⟨gb201, 2, none⟩ = some (.bool t193) := (zqab BK201.out 2).trans rfl
           have hcz66_3 : wr.cell? ⟨gb201, 3, none⟩ = some (.int .i64 t196) := (zqab BK201.out 3).trans rfl
           have hcz66_4 : wr.cell? ⟨gb201, 4, none⟩ = some (.int .u8 x202004_2) := (zqab BK201.out 4).trans rfl
           have hcz66_5 : wr.cell? ⟨gb201, 5, none⟩ = some (.int .u8 x202005_2) := (zqab BK201.out 5).trans rfl
           have hcz66_6 : wr.cell? ⟨gb201, 6, none⟩ = some (.int .u8 x202006_2) := (zqab BK201.out 6).trans rfl
           have hcz66_7 : wr.cell? ⟨gb201, 7, none⟩ = some (.int .u8 x202007_2) := (zqab BK201.out 7).trans rfl
           have hcz66_8 : wr.cell? ⟨gb201, 8, none⟩ = some (.int .u8 x202008_2) := (zqab BK201.out 8).trans rfl
           have hcz66_9 : wr.cell? ⟨gb201, 9, none⟩ = some (.int .u8 x202009_2) := (zqab BK201.out 9).trans rfl
           have hcz66_10 : wr.cell? ⟨gb201, 10, none⟩ = some (.int .u8 x202010_2) := (zqab BK201.out 10).trans rfl
           have hcz66_11 : wr.cell? ⟨gb201, 11, none⟩ = some (.int .u8 x202011_2) := (zqab BK201.out 11).trans rfl
           have hfz66_0 := zqaa BK201.out 0
           have hfz66_1 := zqaa BK201.out 1
           have hfz66_2 := zqaa BK201.out 2
           have hfz66_3 := zqaa BK201.out 3
           have hfz66_4 := zqaa BK201.out 4
           have hfz66_5 := zqaa BK201.out 5
           have hfz66_6 := zqaa BK201.out 6
           have hfz66_7 := zqaa BK201.out 7
           have hfz66_8 := zqaa BK201.out 8
           have hfz66_9 := zqaa BK201.out 9
           have hfz66_10 := zqaa BK201.out 10
           have hfz66_11 := zqaa BK201.out 11
           have hnb67 := NB188_198.out
           have hnc67 := NB198_188.out
           have hcz68_0 : wr.cell? ⟨gb188, 0, none⟩ = some (.int .i64 0) := (zqab BK188.out 0).trans rfl
           have hcz68_1 : wr.cell? ⟨gb188, 1, none⟩ = some (.bool false) := (zqab BK188.out 1).trans rfl
           have hcz68_2 : wr.cell? ⟨gb188, 2, none⟩ = some (.bool false) := (zqab BK188.out 2).trans rfl
           have hcz68_3 : wr.cell? ⟨gb188, 3, none⟩ = some (.int .i64 0) := (zqab BK188.out 3).trans rfl
           have hcz68_4 : wr.cell? ⟨gb188, 4, none⟩ = some (.int .u8 0) := (zqab BK188.out 4).trans rfl
           have hcz68_5 : wr.cell? ⟨gb188, 5, none⟩ = some (.int .u8 0) := (zqab BK188.out 5).trans rfl
           have hcz68_6 : wr.cell? ⟨gb188, 6, none⟩ = some (.int .u8 0) := (zqab BK188.out 6).trans rfl
           have hcz68_7 : wr.cell? ⟨gb188, 7, none⟩ = some (.int .u8 0) := (zqab BK188.out 7).trans rfl
           have hcz68_8 : wr.cell? ⟨gb188, 8, none⟩ = some (.int .u8 0) := (zqab BK188.out 8).trans rfl
           have hcz68_9 : wr.cell? ⟨gb188, 9, none⟩ = some (.int .u8 0) := (zqab BK188.out 9).trans rfl
           have hcz68_10 : wr.cell? ⟨gb188, 10, none⟩ = some (.int .u8 0) := (zqab BK188.out 10).trans rfl
           have hcz68_11 : wr.cell? ⟨gb188, 11, none⟩ = some (.int .u8 0) := (zqab BK188.out 11).trans rfl
           have hfz68_0 := zqaa BK188.out 0
           have hfz68_1 := zqaa BK188.out 1
           have hfz68_2 := zqaa BK188.out 2
           have hfz68_3 := zqaa BK188.out 3
           have hfz68_4 := zqaa BK188.out 4
           have hfz68_5 := zqaa BK188.out 5
           have hfz68_6 := zqaa BK188.out 6
           have hfz68_7 := zqaa BK188.out 7
           have hfz68_8 := zqaa BK188.out 8
           have hfz68_9 := zqaa BK188.out 9
           have hfz68_10 := zqaa BK188.out 10
           have hfz68_11 := zqaa BK188.out 11
           go_wp2
           refine bodyPost_ret (zqbh rfl _ _ gb188 24 #[.int .i64 x202000_12, .bool t192, .bool t193, .int .i64 t196, .int .u8 x202004_2, .int .u8 x202005_2, .int .u8 x202006_2, .int .u8 x202007_2, .int .u8 x202008_2, .int .u8 x202009_2, .int .u8 x202010_2, .int .u8 x202011_2] (0, 0) _ rfl (by (with_reducible repeat (first | refine zqag ?_ _ | refine zqai ?_ | refine zqaf ?_ _)); refine zqan (cs := #[.int .i64 x202000_12, .bool t192, .bool t193, .int .i64 t196, .int .u8 x202004_2, .int .u8 x202005_2, .int .u8 x202006_2, .int .u8 x202007_2, .int .u8 x202008_2, .int .u8 x202009_2, .int .u8 x202010_2, .int .u8 0]) ?_ 11 _ rfl; (with_reducible repeat (first | refine zqag ?_ _ | refine zqai ?_ | refine zqaf ?_ _)); refine zqan (cs := #[.int .i64 x202000_12, .bool t192, .bool t193, .int .i64 t196, .int .u8 x202004_2, .int .u8 x202005_2, .int .u8 x202006_2, .int .u8 x202007_2, .int .u8 x202008_2, .int .u8 x202009_2, .int .u8 0, .int .u8 0]) ?_ 10 _ rfl; (with_reducible repeat (first | refine zqag ?_ _ | refine zqai ?_ | refine zqaf ?_ _)); refine zqan (cs := #[.int .i64 x202000_12, .bool t192, .bool t193, .int .i64 t196, .int .u8 x202004_2, .int .u8 x202005_2, .int .u8 x202006_2, .int .u8 x202007_2, .int .u8 x202008_2, .int .u8 0, .int .u8 0, .int .u8 0]) ?_ 9 _ rfl; (with_reducible repeat (first | refine zqag ?_ _ | refine zqai ?_ | refine zqaf ?_ _)); refine zqan (cs := #[.int .i64 x202000_12, .bool t192, .bool t193, .int .i64 t196, .int .u8 x202004_2, .int .u8 x202005_2, .int .u8 x202006_2, .int .u8 x202007_2, .int .u8 0, .int .u8 0, .int .u8 0, .int .u8 0]) ?_ 8 _ rfl; (with_reducible repeat (first | refine zqag ?_ _ | refine zqai ?_ | refine zqaf ?_ _)); refine zqan (cs := #[.int .i64 x202000_12, .bool t192, .bool t193, .int .i64 t196, .int .u8 x202004_2, .int .u8 x202005_2, .int .u8 x202006_2, .int .u8 0, .int .u8 0, .int .u8 0, .int .u8 0, .int .u8 0]) ?_ 7 _ rfl; (with_reducible repeat (first | refine zqag ?_ _ | refine zqai ?_ | refine zqaf ?_ _)); refine zqan (cs := #[.int .i64 x202000_12, .bool t192, .bool t193, .int .i64 t196, .int .u8 x202004_2, .int .u8 x202005_2, .int .u8 0, .int .u8 0, .int .u8 0, .int .u8 0, .int .u8 0, .int .u8 0]) ?_ 6 _ rfl; (with_reducible repeat (first | refine zqag ?_ _ | refine zqai ?_ | refine zqaf ?_ _)); refine zqan (cs := #[.int .i64 x202000_12, .bool t192, .bool t193, .int .i64 t196, .int .u8 x202004_2, .int .u8 0, .int .u8 0, .int .u8 0, .int .u8 0, .int .u8 0, .int .u8 0, .int .u8 0]) ?_ 5 _ rfl; (with_reducible repeat (first | refine zqag ?_ _ | refine zqai ?_ | refine zqaf ?_ _)); refine zqan (cs := #[.int .i64 x202000_12, .bool t192, .bool t193, .int .i64 t196, .int .u8 0, .int .u8 0, .int .u8 0, .int .u8 0, .int .u8 0, .int .u8 0, .int .u8 0, .int .u8 0]) ?_ 4 _ rfl; (with_reducible repeat (first | refine zqag ?_ _ | refine zqai ?_ | refine zqaf ?_ _)); refine zqan (cs := #[.int .i64 x202000_12, .bool t192, .bool t193, .int .i64 0, .int .u8 0, .int .u8 0, .int .u8 0, .int .u8 0, .int .u8 0, .int .u8 0, .int .u8 0, .int .u8 0]) ?_ 3 _ rfl; (with_reducible repeat (first | refine zqag ?_ _ | refine zqai ?_ | refine zqaf ?_ _)); refine zqan (cs := #[.int .i64 x202000_12, .bool t192, .bool false, .int .i64 0, .int .u8 0, .int .u8 0, .int .u8 0, .int .u8 0, .int .u8 0, .int .u8 0, .int .u8 0, .int .u8 0]) ?_ 2 _ rfl; (with_reducible repeat (first | refine zqag ?_ _ | refine zqai ?_ | refine zqaf ?_ _)); refine zqan (cs := #[.int .i64 x202000_12, .bool false, .bool false, .int .i64 0, .int .u8 0, .int .u8 0, .int .u8 0, .int .u8 0, .int .u8 0, .int .u8 0, .int .u8 0, .int .u8 0]) ?_ 1 _ rfl; (with_reducible repeat (first | refine zqag ?_ _ | refine zqai ?_ | refine zqaf ?_ _)); refine zqan (cs := #[.int .i64 0, .bool false, .bool false, .int .i64 0, .int .u8 0, .int .u8 0, .int .u8 0, .int .u8 0, .int .u8 0, .int .u8 0, .int .u8 0, .int .u8 0]) ?_ 0 _ rfl; (with_reducible repeat (first | refine zqag ?_ _ | refine zqai ?_ | refine zqaf ?_ _)); exact BK188.out) Try.underlying24 rfl (by kernel_rfl)) rfl ?_
           exact ⟨by first | rfl | (simp [errW_none, errW_some] <;> rfl) | (simp [*, errW_none, errW_some] <;> rfl), by repeat (with_reducible first | exact HB.out | apply zqad | apply zqac | apply zqae | refine zqah ?_ GE188.out | refine zqah ?_ GE198.out | refine zqah ?_ GE201.out)⟩
     ·
      rw [if_neg c11] at H
      exact absurd H (by simp)
    ·
     rw [if_neg c9] at H
     have c9b0 : ((rd l0 0) == 0) = false := beq_eq_false_iff_ne.mpr c9
     have c9b1 : ((rd l0 0) != 0) = true := bne_iff_ne.mpr c9
     simp only [Option.some.injEq, Prod.mk.injEq] at H
     obtain ⟨rfl, rfl, rfl, rfl, rfl, rfl, rfl, rfl, rfl, rfl, rfl, rfl, rfl⟩ := H
     go_enter Try.func29, Try.ntmps29
     go_wp2_with (first | ((with_reducible refine zqar (N := 2) rfl ?_); refine zqav ?hg (N := 2) ?hd (cs := #[.int .i64 0, .bool false, .bool false, .int .i64 0, .int .u8 0, .int .u8 0, .int .u8 0, .int .u8 0, .int .u8 0, .int .u8 0, .int .u8 0, .int .u8 0]) (t := 24) ?hr ?_; (case hd => rfl); (case hg => rfl); (case hr => first | (go_simp; done) | (go_simp; rfl)); intro gb188 hg w69 hbox hb; have n0_ := Aside0.mk (zqak (by repeat (with_reducible first | exact HB.out | apply zqad | apply zqac | apply zqae)) hb); have n1_ := Aside0.mk (hbox); have n2_ := Aside0.mk ((by rw [hg]; exact (zqaj (by repeat (with_reducible first | exact HB.out | apply zqad | apply zqac | apply zqae))) : w.heap.size ≤ gb188)); have n3_ := Aside0.mk ((by rw [hg]; exact (zqaj (by repeat (with_reducible first | exact HB.out | apply zqad | apply zqac | apply zqae))) : w.heap.size ≤ gb188)); clear HB; have HB := n0_; have BK188 := n1_; have GW188 := n2_; have GE188 := n3_; clear n0_ n1_ n2_ n3_; clear hb hbox hg) | ((with_reducible refine zqal (f := 24) rfl ?_); refine goesL_ (some 12) rfl rfl Try.func24 (by kernel_rfl) rfl #[.slice A0 l0.length c0] rfl (by (try simp only [List.map_toArray, List.map_cons, List.map_nil]); first | done | rfl | (simp only [List.length_drop, List.length_take]; rfl)) ?_; (with_reducible refine (field_Ahead.calls _ _ l0 t189 t190 _ ?side1 ?side2 A2.out).mono ?_); (case side1 => repeat (first | exact (Kd.C_below HR0.out HB.out) | (with_reducible refine Kd.C_alloc ?_ _) | (with_reducible refine Kd.C_drewN ?_ _) | (with_reducible refine Kd.C_drew ?_))); (case side2 => exact HC0.out); rintro e w70 ⟨rfl, hb⟩; refine ⟨_, rfl, ?_⟩; have n0_ := Aside0.mk (zqam (g := gb188) (o := .cells #[.int .i64 0, .bool false, .bool false, .int .i64 0, .int .u8 0, .int .u8 0, .int .u8 0, .int .u8 0, .int .u8 0, .int .u8 0, .int .u8 0, .int .u8 0] 24 (0, 0)) (by (with_reducible repeat (first | refine zqag ?_ _ | refine zqai ?_ | refine zqaf ?_ _)); exact BK188.out) hb); have n1_ := Aside0.mk (zqak (by repeat (with_reducible first | exact HB.out | apply zqad | apply zqac | apply zqae | refine zqah ?_ GE188.out)) hb); clear BK188; clear HB; have BK188 := n0_; have HB := n1_; clear n0_ n1_; (try clear hb); (try clear hb2); (try clear hk); (try clear hi); have p191 : 0 ≤ (0 : Int) := (by omega); have q191 : 0 < (l0.length : Int) := of_decide_eq_true (by first | (with_reducible assumption) | assumption); obtain ⟨ad191, e191, hx191_0⟩ := Kd.at_int HR0.out 0 p191 q191; cases e191; have qi191 : (0 < l0.length) = True := eq_true (by omega); (try rw [show ((0 : Int)).toNat = 0 from rfl] at hx191_0); (try rw [Addr.add_zero'] at hx191_0); replace hx191_0 := (HB.out.cell (World.block_lt_of_cell? w _ hx191_0)).trans hx191_0; replace p191 := eq_true p191; replace q191 := eq_true q191; have hcz71_0 : w70.cell? ⟨gb188, 0, none⟩ = some (.int .i64 0) := (zqab BK188.out 0).trans rfl; have hcz71_1 : w70.cell? ⟨gb188, 1, none⟩ = some (.bool false) := (zqab BK188.out 1).trans rfl; have hcz71_2 : w70.cell? ⟨gb188, 2, none⟩ = some (.bool false) := (zqab BK188.out 2).trans rfl; have hcz71_3 : w70.cell? ⟨gb188, 3, none⟩ = some (.int .i64 0) := (zqab BK188.out 3).trans rfl; have hcz71_4 : w70.cell? ⟨gb188, 4, none⟩ = some (.int .u8 0) := (zqab BK188.out 4).trans rfl; have hcz71_5 : w70.cell? ⟨gb188, 5, none⟩ = some (.int .u8 0) := (zqab BK188.out 5).trans rfl; have hcz71_6 : w70.cell? ⟨gb188, 6, none⟩ = some (.int .u8 0) := (zqab BK188.out 6).trans rfl; have hcz71_7 : w70.cell? ⟨gb188, 7, none⟩ = some (.int .u8 0) := (zqab BK188.out 7).trans rfl; have hcz71_8 : w70.cell? ⟨gb188, 8, none⟩ = some (.int .u8 0) := (zqab BK188.out 8).trans rfl; have hcz71_9 : w70.cell? ⟨gb188, 9, none⟩ = some (.int .u8 0) := (zqab BK188.out 9).trans rfl; have hcz71_10 : w70.cell? ⟨gb188, 10, none⟩ = some (.int .u8 0) := (zqab BK188.out 10).trans rfl; have hcz71_11 : w70.cell? ⟨gb188, 11, none⟩ = some (.int .u8 0) := (zqab BK188.out 11).trans rfl; have hfz71_0 := zqaa BK188.out 0; have hfz71_1 := zqaa BK188.out 1; have hfz71_2 := zqaa BK188.out 2; have hfz71_3 := zqaa BK188.out 3; have hfz71_4 := zqaa BK188.out 4; have hfz71_5 := zqaa BK188.out 5; have hfz71_6 := zqaa BK188.out 6; have hfz71_7 := zqaa BK188.out 7; have hfz71_8 := zqaa BK188.out 8; have hfz71_9 := zqaa BK188.out 9; have hfz71_10 := zqaa BK188.out 10; have hfz71_11 := zqaa BK188.out 11))
     refine bodyPost_ret (zqbh rfl _ _ gb188 24 #[.int .i64 0, .bool false, .bool false, .int .i64 0, .int .u8 0, .int .u8 0, .int .u8 0, .int .u8 0, .int .u8 0, .int .u8 0, .int .u8 0, .int .u8 0] (0, 0) _ rfl (by (with_reducible repeat (first | refine zqag ?_ _ | refine zqai ?_ | refine zqaf ?_ _)); refine zqan (cs := #[.int .i64 0, .bool false, .bool false, .int .i64 0, .int .u8 0, .int .u8 0, .int .u8 0, .int .u8 0, .int .u8 0, .int .u8 0, .int .u8 0, .int .u8 0]) ?_ 11 _ rfl; (with_reducible repeat (first | refine zqag ?_ _ | refine zqai ?_ | refine zqaf ?_ _)); refine zqan (cs := #[.int .i64 0, .bool false, .bool false, .int .i64 0, .int .u8 0, .int .u8 0, .int .u8 0, .int .u8 0, .int .u8 0, .int .u8 0, .int .u8 0, .int .u8 0]) ?_ 10 _ rfl; (with_reducible repeat (first | refine zqag ?_ _ | refine zqai ?_ | refine zqaf ?_ _)); refine zqan (cs := #[.int .i64 0, .bool false, .bool false, .int .i64 0, .int .u8 0, .int .u8 0, .int .u8 0, .int .u8 0, .int .u8 0, .int .u8 0, .int .u8 0, .int .u8 0]) ?_ 9 _ rfl; (with_reducible repeat (first | refine zqag ?_ _ | refine zqai ?_ | refine zqaf ?_ _)); refine zqan (cs := #[.int .i64 0, .bool false, .bool false, .int .i64 0, .int .u8 0, .int .u8 0, .int .u8 0, .int .u8 0, .int .u8 0, .int .u8 0, .int .u8 0, .int .u8 0]) ?_ 8 _ rfl; (with_reducible repeat (first | refine zqag ?_ _ | refine zqai ?_ | refine zqaf ?_ _)); refine zqan (cs := #[.int .i64 0, .bool false, .bool false, .int .i64 0, .int .u8 0, .int .u8 0, .int .u8 0, .int .u8 0, .int .u8 0, .int .u8 0, .int .u8 0, .int .u8 0]) ?_ 7 _ rfl; (with_reducible repeat (first | refine zqag ?_ _ | refine zqai ?_ | refine zqaf ?_ _)); refine zqan (cs := #[.int .i64 0, .bool false, .bool false, .int .i64 0, .int .u8 0, .int .u8 0, .int .u8 0, .int .u8 0, .int .u8 0, .int .u8 0, .int .u8 0, .int .u8 0]) ?_ 6 _ rfl; (with_reducible repeat (first | refine zqag ?_ _ | refine zqai ?_ | refine zqaf ?_ _)); refine zqan (cs := #[.int .i64 0, .bool false, .bool false, .int .i64 0, .int .u8 0, .int .u8 0, .int .u8 0, .int .u8 0, .int .u8 0, .int .u8 0, .int .u8 0, .int .u8 0]) ?_ 5 _ rfl; (with_reducible repeat (first | refine zqag ?_ _ | refine zqai ?_ | refine zqaf ?_ _)); refine zqan (cs := #[.int .i64 0, .bool false, .bool false, .int .i64 0, .int .u8 0, .int .u8 0, .int .u8 0, .int .u8 0, .int .u8 0, .int .u8 0, .int .u8 0, .int .u8 0]) ?_ 4 _ rfl; (with_reducible repeat (first | refine zqag ?_ _ | refine zqai ?_ | refine zqaf ?_ _)); refine zqan (cs := #[.int .i64 0, .bool false, .bool false, .int .i64 0, .int .u8 0, .int .u8 0, .int .u8 0, .int .u8 0, .int .u8 0, .int .u8 0, .int .u8 0, .int .u8 0]) ?_ 3 _ rfl; (with_reducible repeat (first | refine zqag ?_ _ | refine zqai ?_ | refine zqaf ?_ _)); refine zqan (cs := #[.int .i64 0, .bool false, .bool false, .int .i64 0, .int .u8 0, .int .u8 0, .int .u8 0, .int .u8 0, .int .u8 0, .int .u8 0, .int .u8 0, .int .u8 0]) ?_ 2 _ rfl; (with_reducible repeat (first | refine zqag ?_ _ | refine zqai ?_ | refine zqaf ?_ _)); refine zqan (cs := #[.int .i64 0, .bool false, .bool false, .int .i64 0, .int .u8 0, .int .u8 0, .int .u8 0, .int .u8 0, .int .u8 0, .int .u8 0, .int .u8 0, .int .u8 0]) ?_ 1 _ rfl; (with_reducible repeat (first | refine zqag ?_ _ | refine zqai ?_ | refine zqaf ?_ _)); refine zqan (cs := #[.int .i64 0, .bool false, .bool false, .int .i64 0, .int .u8 0, .int .u8 0, .int .u8 0, .int .u8 0, .int .u8 0, .int .u8 0, .int .u8 0, .int .u8 0]) ?_ 0 _ rfl; (with_reducible repeat (first | refine zqag ?_ _ | refine zqai ?_ | refine zqaf ?_ _)); exact BK188.out) Try.underlying24 rfl (by kernel_rfl)) rfl ?_
     exact ⟨by first | rfl | (simp [errW_none, errW_some] <;> rfl) | (simp [*, errW_none, errW_some] <;> rfl), by repeat (with_reducible first | exact HB.out | apply zqad | apply zqac | apply zqae | refine zqah ?_ GE188.out)⟩
   ·
    rw [if_neg c8] at H
    exact absurd H (by simp)
 ·
  rw [if_neg c3] at H
  have c3b0 : (t190 == 0) = false := beq_eq_false_iff_ne.mpr c3
  have c3b1 : (t190 != 0) = true := bne_iff_ne.mpr c3
  simp only [Option.some.injEq, Prod.mk.injEq] at H
  obtain ⟨rfl, rfl, rfl, rfl, rfl, rfl, rfl, rfl, rfl, rfl, rfl, rfl, rfl⟩ := H
  go_enter Try.func29, Try.ntmps29
  go_wp2_with (first | ((with_reducible refine zqar (N := 2) rfl ?_); refine zqav ?hg (N := 2) ?hd (cs := #[.int .i64 0, .bool false, .bool false, .int .i64 0, .int .u8 0, .int .u8 0, .int .u8 0, .int .u8 0, .int .u8 0, .int .u8 0, .int .u8 0, .int .u8 0]) (t := 24) ?hr ?_; (case hd => rfl); (case hg => rfl); (case hr => first | (go_simp; done) | (go_simp; rfl)); intro gb188 hg w72 hbox hb; have n0_ := Aside0.mk (zqak (by repeat (with_reducible first | exact HB.out | apply zqad | apply zqac | apply zqae)) hb); have n1_ := Aside0.mk (hbox); have n2_ := Aside0.mk ((by rw [hg]; exact (zqaj (by repeat (with_reducible first | exact HB.out | apply zqad | apply zqac | apply zqae))) : w.heap.size ≤ gb188)); have n3_ := Aside0.mk ((by rw [hg]; exact (zqaj (by repeat (with_reducible first | exact HB.out | apply zqad | apply zqac | apply zqae))) : w.heap.size ≤ gb188)); clear HB; have HB := n0_; have BK188 := n1_; have GW188 := n2_; have GE188 := n3_; clear n0_ n1_ n2_ n3_; clear hb hbox hg) | ((with_reducible refine zqal (f := 24) rfl ?_); refine goesL_ (some 12) rfl rfl Try.func24 (by kernel_rfl) rfl #[.slice A0 l0.length c0] rfl (by (try simp only [List.map_toArray, List.map_cons, List.map_nil]); first | done | rfl | (simp only [List.length_drop, List.length_take]; rfl)) ?_; (with_reducible refine (field_Ahead.calls _ _ l0 t189 t190 _ ?side1 ?side2 A2.out).mono ?_); (case side1 => repeat (first | exact (Kd.C_below HR0.out HB.out) | (with_reducible refine Kd.C_alloc ?_ _) | (with_reducible refine Kd.C_drewN ?_ _) | (with_reducible refine Kd.C_drew ?_))); (case side2 => exact HC0.out); rintro e w73 ⟨rfl, hb⟩; refine ⟨_, rfl, ?_⟩; have n0_ := Aside0.mk (zqam (g := gb188) (o := .cells #[.int .i64 0, .bool false, .bool false, .int .i64 0, .int .u8 0, .int .u8 0, .int .u8 0, .int .u8 0, .int .u8 0, .int .u8 0, .int .u8 0, .int .u8 0] 24 (0, 0)) (by (with_reducible repeat (first | refine zqag ?_ _ | refine zqai ?_ | refine zqaf ?_ _)); exact BK188.out) hb); have n1_ := Aside0.mk (zqak (by repeat (with_reducible first | exact HB.out | apply zqad | apply zqac | apply zqae | refine zqah ?_ GE188.out)) hb); clear BK188; clear HB; have BK188 := n0_; have HB := n1_; clear n0_ n1_; (try clear hb); (try clear hb2); (try clear hk); (try clear hi); have hcz74_0 : w73.cell? ⟨gb188, 0, none⟩ = some (.int .i64 0) := (zqab BK188.out 0).trans rfl; have hcz74_1 : w73.cell? ⟨gb188, 1, none⟩ = some (.bool false) := (zqab BK188.out 1).trans rfl; have hcz74_2 : w73.cell? ⟨gb188, 2, none⟩ = some (.bool false) := (zqab BK188.out 2).trans rfl; have hcz74_3 : w73.cell? ⟨gb188, 3, none⟩ = some (.int .i64 0) := (zqab BK188.out 3).trans rfl; have hcz74_4 : w73.cell? ⟨gb188, 4, none⟩ = some (.int .u8 0) := (zqab BK188.out 4).trans rfl; have hcz74_5 : w73.cell? ⟨gb188, 5, none⟩ = some (.int .u8 0) := (zqab BK188.out 5).trans rfl; have hcz74_6 : w73.cell? ⟨gb188, 6, none⟩ = some (.int .u8 0) := (zqab BK188.out 6).trans rfl; have hcz74_7 : w73.cell? ⟨gb188, 7, none⟩ = some (.int .u8 0) := (zqab BK188.out 7).trans rfl; have hcz74_8 : w73.cell? ⟨gb188, 8, none⟩ = some (.int .u8 0) := (zqab BK188.out 8).trans rfl; have hcz74_9 : w73.cell? ⟨gb188, 9, none⟩ = some (.int .u8 0) := (zqab BK188.out 9).trans rfl; have hcz74_10 : w73.cell? ⟨gb188, 10, none⟩ = some (.int .u8 0) := (zqab BK188.out 10).trans rfl; have hcz74_11 : w73.cell? ⟨gb188, 11, none⟩ = some (.int .u8 0) := (zqab BK188.out 11).trans rfl; have hfz74_0 := zqaa BK188.out 0; have hfz74_1 := zqaa BK188.out 1; have hfz74_2 := zqaa BK188.out 2; have hfz74_3 := zqaa BK188.out 3; have hfz74_4 := zqaa BK188.out 4; have hfz74_5 := zqaa BK188.out 5; have hfz74_6 := zqaa BK188.out 6; have hfz74_7 := zqaa BK188.out 7; have hfz74_8 := zqaa BK188.out 8; have hfz74_9 := zqaa BK188.out 9; have hfz74_10 := zqaa BK188.out 10; have hfz74_11 := zqaa BK188.out 11))
  refine bodyPost_ret (zqbh rfl _ _ gb188 24 #[.int .i64 0, .bool false, .bool false, .int .i64 0, .int .u8 0, .int .u8 0, .int .u8 0, .int .u8 0, .int .u8 0, .int .u8 0, .int .u8 0, .int .u8 0] (0, 0) _ rfl (by (with_reducible repeat (first | refine zqag ?_ _ | refine zqai ?_ | refine zqaf ?_ _)); refine zqan (cs := #[.int .i64 0, .bool false, .bool false, .int .i64 0, .int .u8 0, .int .u8 0, .int .u8 0, .int .u8 0, .int .u8 0, .int .u8 0, .int .u8 0, .int .u8 0]) ?_ 11 _ rfl; (with_reducible repeat (first | refine zqag ?_ _ | refine zqai ?_ | refine zqaf ?_ _)); refine zqan (cs := #[.int .i64 0, .bool false, .bool false, .int .i64 0, .int .u8 0, .int .u8 0, .int .u8 0, .int .u8 0, .int .u8 0, .int .u8 0, .int .u8 0, .int .u8 0]) ?_ 10 _ rfl; (with_reducible repeat (first | refine zqag ?_ _ | refine zqai ?_ | refine zqaf ?_ _)); refine zqan (cs := #[.int .i64 0, .bool false, .bool false, .int .i64 0, .int .u8 0, .int .u8 0, .int .u8 0, .int .u8 0, .int .u8 0, .int .u8 0, .int .u8 0, .int .u8 0]) ?_ 9 _ rfl; (with_reducible repeat (first | refine zqag ?_ _ | refine zqai ?_ | refine zqaf ?_ _)); refine zqan (cs := #[.int .i64 0, .bool false, .bool false, .int .i64 0, .int .u8 0, .int .u8 0, .int .u8 0, .int .u8 0, .int .u8 0, .int .u8 0, .int .u8 0, .int .u8 0]) ?_ 8 _ rfl; (with_reducible repeat (first | refine zqag ?_ _ | refine zqai ?_ | refine zqaf ?_ _)); refine zqan (cs := #[.int .i64 0, .bool false, .bool false, .int .i64 0, .int .u8 0, .int .u8 0, .int .u8 0, .int .u8 0, .int .u8 0, .int .u8 0, .int .u8 0, .int .u8 0]) ?_ 7 _ rfl; (with_reducible repeat (first | refine zqag ?_ _ | refine zqai ?_ | refine zqaf ?_ _)); refine zqan (cs := #[.int .i64 0, .bool false, .bool false, .int .i64 0, .int .u8 0, .int .u8 0, .int .u8 0, .int .u8 0, .int .u8 0, .int .u8 0, .int .u8 0, .int .u8 0]) ?_ 6 _ rfl; (with_reducible repeat (first | refine zqag ?_ _ | refine zqai ?_ | refine zqaf ?_ _)); refine zqan (cs := #[.int .i64 0, .bool false, .bool false, .int .i64 0, .int .u8 0, .int .u8 0, .int .u8 0, .int .u8 0, .int .u8 0, .int .u8 0, .int .u8 0, .int .u8 0]) ?_ 5 _ rfl; (with_reducible repeat (first | refine zqag ?_ _ | refine zqai ?_ | refine zqaf ?_ _)); refine zqan (cs := #[.int .i64 0, .bool false, .bool false, .int .i64 0, .int .u8 0, .int .u8 0, .int .u8 0, .int .u8 0, .int .u8 0, .int .u8 0, .int .u8 0, .int .u8 0]) ?_ 4 _ rfl; (with_reducible repeat (first | refine zqag ?_ _ | refine zqai ?_ | refine zqaf ?_ _)); refine zqan (cs := #[.int .i64 0, .bool false, .bool false, .int .i64 0, .int .u8 0, .int .u8 0, .int .u8 0, .int .u8 0, .int .u8 0, .int .u8 0, .int .u8 0, .int .u8 0]) ?_ 3 _ rfl; (with_reducible repeat (first | refine zqag ?_ _ | refine zqai ?_ | refine zqaf ?_ _)); refine zqan (cs := #[.int .i64 0, .bool false, .bool false, .int .i64 0, .int .u8 0, .int .u8 0, .int .u8 0, .int .u8 0, .int .u8 0, .int .u8 0, .int .u8 0, .int .u8 0]) ?_ 2 _ rfl; (with_reducible repeat (first | refine zqag ?_ _ | refine zqai ?_ | refine zqaf ?_ _)); refine zqan (cs := #[.int .i64 0, .bool false, .bool false, .int .i64 0, .int .u8 0, .int .u8 0, .int .u8 0, .int .u8 0, .int .u8 0, .int .u8 0, .int .u8 0, .int .u8 0]) ?_ 1 _ rfl; (with_reducible repeat (first | refine zqag ?_ _ | refine zqai ?_ | refine zqaf ?_ _)); refine zqan (cs := #[.int .i64 0, .bool false, .bool false, .int .i64 0, .int .u8 0, .int .u8 0, .int .u8 0, .int .u8 0, .int .u8 0, .int .u8 0, .int .u8 0, .int .u8 0]) ?_ 0 _ rfl; (with_reducible repeat (first | refine zqag ?_ _ | refine zqai ?_ | refine zqaf ?_ _)); exact BK188.out) Try.underlying24 rfl (by kernel_rfl)) rfl ?_
  exact ⟨by first | rfl | (simp [errW_none, errW_some] <;> rfl) | (simp [*, errW_none, errW_some] <;> rfl), by repeat (with_reducible first | exact HB.out | apply zqad | apply zqac | apply zqae | refine zqah ?_ GE188.out)⟩

end Go.Proofs.Ytakemodmdhglnaa.PA
