/- Functions of the program, in plain Lean, and their walks (printed; half the indent). Conditions: none. -/
-- PRINTED by print.py (a twelfth state) out of the translation. Not trusted: Lean checks it.
import Derived.Test.YtakemodmdhglnaaPAx0
import Derived.Test.YtakemodmdhglnaaPAx8
import Derived.Test.YtakemodmdhglnaaPAx15
import Derived.Test.YtakemodmdhglnaaPAx16
namespace Go.Proofs.Ytakemodmdhglnaa.PA
open Go.RowKit Go.Proofs.YtakemodmdhglnaaW.PrintWords Go.Proofs.YtakemodmdhglnaaW.PrintLast Go.Proofs.YtakemodmdhglnaaW.PrintMore
attribute [local go_sem] zqbb zqaz zqbd zqbe zqax zqay zqba zqbc   -- for this text's walks alone
set_option linter.unusedVariables false
set_option linter.unusedSimpArgs false

/-! HAND field_Next: function 23 -/
/-- Where a level stands among fields that begin at a place: field, place in it, error. -/
def nextAt (n : Int) : List Int → Int → Int → Int × Int × Int
 | [], _, at_ => if n > at_ then (0, 0, 12) else (9, 0, 0)
 | wd :: t, k, at_ => if n < wrap64 (at_ + wd) then (k, wrap64 (n - at_), 0) else nextAt n t (k + 1) (wrap64 (at_ + wd))
def field_Next.f (l0 : List Int) : Option (Int × Int × Int) :=
 if chk l0 0 ≥ 0 then some (0, 0, 10) else (field_read.f l0).bind fun h =>
  if (l0.length : Int) = 0 then some (0, 0, 0)
  else if (l0.length : Int) ≤ 13 then some (1, (l0.length : Int) - 1, 0)
  else if h.1 = true ∧ (l0.length : Int) ≤ 32 then some (1, (l0.length : Int) - 1, 0)
  else if h.2.2.2.2.2 = false then some (2, wrap64 ((l0.length : Int) - h.2.2.1), 0)
  else (field_head_sum.f h.1 h.2.1 h.2.2.1 h.2.2.2.1 h.2.2.2.2.1).bind fun s => some (nextAt (l0.length : Int) [0, 0, 0, wrap64 (s - h.2.2.2.1), 15, 1, 1, 1, 7] 0 h.2.2.2.1)
theorem idx9_0 (x : Int) (w : World) : (Instr.index 76 (.agg #[.int .i64 0, .int .i64 0, .int .i64 0, .int .i64 x, .int .i64 15, .int .i64 1, .int .i64 1, .int .i64 1, .int .i64 7]) (.int .i64 0)).run Try.prog w = .ok (.int .i64 0) w := by kernel_rfl
theorem idx9_1 (x : Int) (w : World) : (Instr.index 76 (.agg #[.int .i64 0, .int .i64 0, .int .i64 0, .int .i64 x, .int .i64 15, .int .i64 1, .int .i64 1, .int .i64 1, .int .i64 7]) (.int .i64 1)).run Try.prog w = .ok (.int .i64 0) w := by kernel_rfl
theorem idx9_2 (x : Int) (w : World) : (Instr.index 76 (.agg #[.int .i64 0, .int .i64 0, .int .i64 0, .int .i64 x, .int .i64 15, .int .i64 1, .int .i64 1, .int .i64 1, .int .i64 7]) (.int .i64 2)).run Try.prog w = .ok (.int .i64 0) w := by kernel_rfl
theorem idx9_3 (x : Int) (w : World) : (Instr.index 76 (.agg #[.int .i64 0, .int .i64 0, .int .i64 0, .int .i64 x, .int .i64 15, .int .i64 1, .int .i64 1, .int .i64 1, .int .i64 7]) (.int .i64 3)).run Try.prog w = .ok (.int .i64 x) w := by kernel_rfl
theorem idx9_4 (x : Int) (w : World) : (Instr.index 76 (.agg #[.int .i64 0, .int .i64 0, .int .i64 0, .int .i64 x, .int .i64 15, .int .i64 1, .int .i64 1, .int .i64 1, .int .i64 7]) (.int .i64 4)).run Try.prog w = .ok (.int .i64 15) w := by kernel_rfl
theorem idx9_5 (x : Int) (w : World) : (Instr.index 76 (.agg #[.int .i64 0, .int .i64 0, .int .i64 0, .int .i64 x, .int .i64 15, .int .i64 1, .int .i64 1, .int .i64 1, .int .i64 7]) (.int .i64 5)).run Try.prog w = .ok (.int .i64 1) w := by kernel_rfl
theorem idx9_6 (x : Int) (w : World) : (Instr.index 76 (.agg #[.int .i64 0, .int .i64 0, .int .i64 0, .int .i64 x, .int .i64 15, .int .i64 1, .int .i64 1, .int .i64 1, .int .i64 7]) (.int .i64 6)).run Try.prog w = .ok (.int .i64 1) w := by kernel_rfl
theorem idx9_7 (x : Int) (w : World) : (Instr.index 76 (.agg #[.int .i64 0, .int .i64 0, .int .i64 0, .int .i64 x, .int .i64 15, .int .i64 1, .int .i64 1, .int .i64 1, .int .i64 7]) (.int .i64 7)).run Try.prog w = .ok (.int .i64 1) w := by kernel_rfl
theorem idx9_8 (x : Int) (w : World) : (Instr.index 76 (.agg #[.int .i64 0, .int .i64 0, .int .i64 0, .int .i64 x, .int .i64 15, .int .i64 1, .int .i64 1, .int .i64 1, .int .i64 7]) (.int .i64 8)).run Try.prog w = .ok (.int .i64 7) w := by kernel_rfl
theorem head_cell {w2 w3 : World} {cs : Array Value} {t : TypeId} (hb : Below ((w2.alloc (.cells cs t)).drew).heap.size (w2.alloc (.cells cs t)).drew w3) (i : Nat) : w3.cell? ⟨w2.heap.size, i, none⟩ = cs[i]? := by
 have h : ((w2.alloc (.cells cs t)).drew).heap[w2.heap.size]? = some (.cells cs t (0, 0)) := heap_alloc_new w2 _
 exact zqab (zqam h hb) i
set_option maxHeartbeats 4000000 in
set_option maxRecDepth 100000 in
theorem field_Next.calls (A0 : Option Addr) (c0 : Nat) (l0 : List Int) (r1 : Int) (r2 : Int) (r3 : Int) (w : World) (hr0 : Kd.C (Kd.int .i64) w A0 l0.length l0) (hc0 : l0.length ≤ c0) (h : field_Next.f l0 = some (r1, r2, r3)) :
  Calls Try.prog 23 #[.slice A0 l0.length c0] w fun e w' => e = .returned (.tuple #[.int .i64 r1, .int .i64 r2, .int .i64 r3]) ∧ Below w.heap.size w w' := by
 unfold field_Next.f at h
 have HC := Aside0.mk (bits_Check.calls A0 c0 l0 (chk l0 0) w hr0 hc0 rfl)
 have HR0 := Aside0.mk hr0
 have HC0 := Aside0.mk hc0
 clear hr0 hc0
 by_cases c : chk l0 0 ≥ 0
 ·
  rw [if_pos c] at h
  simp only [Option.some.injEq, Prod.mk.injEq] at h
  obtain ⟨rfl, rfl, rfl⟩ := h
  go_enter Try.func23, Try.ntmps23
  go_wp2_with (go_at_call 53; refine HC.out.mono ?_; rintro e w' ⟨rfl, ⟨n, rfl⟩⟩)
  go_ret3
  exact ⟨rfl, zqac (Below.refl _ _) _⟩
 rw [if_neg c] at h
 have cb : decide (0 ≤ chk l0 0) = false := decide_eq_false c
 clear c
 generalize chk l0 0 = rc at HC cb
 cases hrd : field_read.f l0 with
 | none => rw [hrd] at h; exact absurd h (by simp)
 | some q =>
  obtain ⟨h1, h2, h3, h4, h5, h6⟩ := q
  rw [hrd] at h
  simp only [Option.bind_some] at h
  have HRD := Aside0.mk (fun (w1 : World) hb => field_read.calls A0 c0 l0 h1 h2 h3 h4 h5 h6 w1 (Kd.C_below HR0.out hb) HC0.out hrd)
  clear hrd
  by_cases e0 : (l0.length : Int) = 0
  ·
   rw [if_pos e0] at h
   simp only [Option.some.injEq, Prod.mk.injEq] at h
   obtain ⟨rfl, rfl, rfl⟩ := h
   have e0b : l0.length = 0 := by omega
   rw [e0b] at HC HRD ⊢
   clear e0 e0b
   go_enter Try.func23, Try.ntmps23
   go_wp2_with (first | (go_at_call 53; refine HC.out.mono ?_; rintro e w1 ⟨rfl, hd⟩; have HB1 := Aside0.mk hd.below; clear hd) | (go_at_call 54; refine (HRD.out _ HB1.out).mono ?_; rintro e w2 ⟨rfl, hb⟩; have HB2 := Aside0.mk (zqbf HB1.out HB1.out.size hb); clear hb))
   go_ret3
   exact ⟨rfl, zqad HB2.out _⟩
  rw [if_neg e0] at h
  have e0b : ((l0.length : Int) == 0) = false := beq_eq_false_iff_ne.mpr e0
  have e0c : ¬ (l0.length = 0) := by omega
  by_cases e1 : (l0.length : Int) ≤ 13
  ·
   rw [if_pos e1] at h
   have e1b : l0.length ≤ 13 := by omega
   simp only [Option.some.injEq, Prod.mk.injEq] at h
   obtain ⟨rfl, rfl, rfl⟩ := h
   go_enter Try.func23, Try.ntmps23
   go_wp2_with (first | (go_at_call 53; refine HC.out.mono ?_; rintro e w1 ⟨rfl, hd⟩; have HB1 := Aside0.mk hd.below; clear hd) | (go_at_call 54; refine (HRD.out _ HB1.out).mono ?_; rintro e w2 ⟨rfl, hb⟩; have HB2 := Aside0.mk (zqbf HB1.out HB1.out.size hb); clear hb))
   go_ret3
   exact ⟨rfl, zqad HB2.out _⟩
  rw [if_neg e1] at h
  have e1b : ¬ (l0.length ≤ 13) := by omega
  by_cases e2 : h1 = true ∧ (l0.length : Int) ≤ 32
  ·
   rw [if_pos e2] at h
   obtain ⟨rfl, e2a⟩ := e2
   have e2b : l0.length ≤ 32 := by omega
   simp only [Option.some.injEq, Prod.mk.injEq] at h
   obtain ⟨rfl, rfl, rfl⟩ := h
   go_enter Try.func23, Try.ntmps23
   go_wp2_with (first | (go_at_call 53; refine HC.out.mono ?_; rintro e w1 ⟨rfl, hd⟩; have HB1 := Aside0.mk hd.below; clear hd) | (go_at_call 54; refine (HRD.out _ HB1.out).mono ?_; rintro e w2 ⟨rfl, hb⟩; have HB2 := Aside0.mk (zqbf HB1.out HB1.out.size hb); clear hb))
   go_ret3
   exact ⟨rfl, zqad HB2.out _⟩
  rw [if_neg e2] at h
  by_cases e3 : h6 = false
  ·
   rw [if_pos e3] at h
   subst e3
   simp only [Option.some.injEq, Prod.mk.injEq] at h
   obtain ⟨rfl, rfl, rfl⟩ := h
   cases h1
   ·
    go_enter Try.func23, Try.ntmps23
    go_wp2_with (first | (go_at_call 53; refine HC.out.mono ?_; rintro e w1 ⟨rfl, hd⟩; have HB1 := Aside0.mk hd.below; clear hd) | (go_at_call 54; refine (HRD.out _ HB1.out).mono ?_; rintro e w2 ⟨rfl, hb⟩; have HB2 := Aside0.mk (zqbf HB1.out HB1.out.size hb); clear hb))
    go_region
    all_goals
     go_wp2
     go_ret3
     exact ⟨rfl, by repeat (first | exact zqad HB2.out _ | apply zqae | apply zqac)⟩
   ·
    have e2a : ¬ ((l0.length : Int) ≤ 32) := fun e => e2 ⟨rfl, e⟩
    have e2b : ¬ (l0.length ≤ 32) := by omega
    go_enter Try.func23, Try.ntmps23
    go_wp2_with (first | (go_at_call 53; refine HC.out.mono ?_; rintro e w1 ⟨rfl, hd⟩; have HB1 := Aside0.mk hd.below; clear hd) | (go_at_call 54; refine (HRD.out _ HB1.out).mono ?_; rintro e w2 ⟨rfl, hb⟩; have HB2 := Aside0.mk (zqbf HB1.out HB1.out.size hb); clear hb))
    go_region
    all_goals
     go_wp2
     go_ret3
     exact ⟨rfl, by repeat (first | exact zqad HB2.out _ | apply zqae | apply zqac)⟩
  rw [if_neg e3] at h
  obtain rfl : h6 = true := by simpa using e3
  cases hs : field_head_sum.f h1 h2 h3 h4 h5 with
  | none => rw [hs] at h; exact absurd h (by simp)
  | some s =>
   rw [hs] at h
   simp only [Option.bind_some, Option.some.injEq] at h
   have HS := Aside0.mk (fun w => field_head_sum.calls h1 h2 h3 h4 h5 s w hs)
   have HA := Aside0.mk h
   clear h hs
   have e2c : h1 = true → ¬ ((l0.length : Int) ≤ 32) := fun e e' => e2 ⟨e, e'⟩
   clear e2
   have hx0 := idx9_0 (wrap64 (s - h4))
   have hx1 := idx9_1 (wrap64 (s - h4))
   have hx2 := idx9_2 (wrap64 (s - h4))
   have hx3 := idx9_3 (wrap64 (s - h4))
   have hx4 := idx9_4 (wrap64 (s - h4))
   have hx5 := idx9_5 (wrap64 (s - h4))
   have hx6 := idx9_6 (wrap64 (s - h4))
   have hx7 := idx9_7 (wrap64 (s - h4))
   have hx8 := idx9_8 (wrap64 (s - h4))
   go_enter Try.func23, Try.ntmps23
   cases h1
   ·
    go_wp2_with (first | (go_at_call 53; refine HC.out.mono ?_; rintro e w1 ⟨rfl, hd⟩; have HB1 := Aside0.mk hd.below; clear hd) | (go_at_call 54; refine (HRD.out _ HB1.out).mono ?_; rintro e w2 ⟨rfl, hb⟩; have HB2 := Aside0.mk (zqbf HB1.out HB1.out.size hb); clear hb))
    go_region_with (go_at_call 55; refine (HS.out _).mono ?_; rintro e w3 ⟨rfl, hb⟩; have HB3 := Aside0.mk (zqak (zqae (zqad HB2.out _)) hb); have hc3 := (head_cell hb 3).trans (rfl : _ = some (Value.int .i64 h4)); clear hb)
    all_goals
     go_simp
     go_wp2
     go_loopw [52, 8] (fun i v wr => ∃ (k : Nat) (at_ : Int), k ≤ 9 ∧ i = .int .i64 (k : Int) ∧ v = .int .i64 at_ ∧ Aside0 (nextAt (l0.length : Int) (([0, 0, 0, wrap64 (s - h4), 15, 1, 1, 1, 7] : List Int).drop k) (k : Int) at_ = (r1, r2, r3)) ∧ Aside0 (Below w.heap.size w wr)) (fun i _ _ => 9 - (intOf i).toNat)
     case atStart => exact ⟨0, h4, by omega, rfl, rfl, ⟨HA.out⟩, HB3⟩
     case round =>
      obtain ⟨k, at_, hk, rfl, rfl, HN, HBk⟩ := hrel
      have hk9 : k = 0 ∨ k = 1 ∨ k = 2 ∨ k = 3 ∨ k = 4 ∨ k = 5 ∨ k = 6 ∨ k = 7 ∨ k = 8 ∨ k = 9 := by omega
      rcases hk9 with rfl | rfl | rfl | rfl | rfl | rfl | rfl | rfl | rfl | rfl
      ·
       go_wp2
       all_goals simp only [hx0]
       all_goals go_wp2
       all_goals
        have hn := HN.out
        clear HN
        simp only [List.drop_succ_cons, List.drop_zero] at hn
        rw [nextAt] at hn
        split at hn
       all_goals rename_i hlt
       all_goals (try simp only [Int.add_zero] at hlt)
       all_goals first
        | (exfalso; omega)
        | exact ⟨⟨1, wrap64 (at_ + 0), by omega, by go_num, by simp, ⟨hn⟩, HBk⟩, by simp [intOf]⟩
        | (simp only [Prod.mk.injEq] at hn; obtain ⟨rfl, rfl, rfl⟩ := hn; go_ret3; exact ⟨rfl, HBk.out⟩)
      ·
       go_wp2
       all_goals simp only [hx1]
       all_goals go_wp2
       all_goals
        have hn := HN.out
        clear HN
        simp only [List.drop_succ_cons, List.drop_zero] at hn
        rw [nextAt] at hn
        split at hn
       all_goals rename_i hlt
       all_goals (try simp only [Int.add_zero] at hlt)
       all_goals first
        | (exfalso; omega)
        | exact ⟨⟨2, wrap64 (at_ + 0), by omega, by go_num, by simp, ⟨hn⟩, HBk⟩, by simp [intOf]⟩
        | (simp only [Prod.mk.injEq] at hn; obtain ⟨rfl, rfl, rfl⟩ := hn; go_ret3; exact ⟨rfl, HBk.out⟩)
      ·
       go_wp2
       all_goals simp only [hx2]
       all_goals go_wp2
       all_goals
        have hn := HN.out
        clear HN
        simp only [List.drop_succ_cons, List.drop_zero] at hn
        rw [nextAt] at hn
        split at hn
       all_goals rename_i hlt
       all_goals (try simp only [Int.add_zero] at hlt)
       all_goals first
        | (exfalso; omega)
        | exact ⟨⟨3, wrap64 (at_ + 0), by omega, by go_num, by simp, ⟨hn⟩, HBk⟩, by simp [intOf]⟩
        | (simp only [Prod.mk.injEq] at hn; obtain ⟨rfl, rfl, rfl⟩ := hn; go_ret3; exact ⟨rfl, HBk.out⟩)
      ·
       go_wp2
       all_goals simp only [hx3]
       all_goals go_wp2
       all_goals
        have hn := HN.out
        clear HN
        simp only [List.drop_succ_cons, List.drop_zero] at hn
        rw [nextAt] at hn
        split at hn
       all_goals rename_i hlt
       all_goals (try simp only [Int.add_zero] at hlt)
       all_goals first
        | (exfalso; omega)
        | exact ⟨⟨4, wrap64 (at_ + wrap64 (s - h4)), by omega, by go_num, by simp, ⟨hn⟩, HBk⟩, by simp [intOf]⟩
        | (simp only [Prod.mk.injEq] at hn; obtain ⟨rfl, rfl, rfl⟩ := hn; go_ret3; exact ⟨rfl, HBk.out⟩)
      ·
       go_wp2
       all_goals simp only [hx4]
       all_goals go_wp2
       all_goals
        have hn := HN.out
        clear HN
        simp only [List.drop_succ_cons, List.drop_zero] at hn
        rw [nextAt] at hn
        split at hn
       all_goals rename_i hlt
       all_goals (try simp only [Int.add_zero] at hlt)
       all_goals first
        | (exfalso; omega)
        | exact ⟨⟨5, wrap64 (at_ + 15), by omega, by go_num, by simp, ⟨hn⟩, HBk⟩, by simp [intOf]⟩
        | (simp only [Prod.mk.injEq] at hn; obtain ⟨rfl, rfl, rfl⟩ := hn; go_ret3; exact ⟨rfl, HBk.out⟩)
      ·
       go_wp2
       all_goals simp only [hx5]
       all_goals go_wp2
       all_goals
        have hn := HN.out
        clear HN
        simp only [List.drop_succ_cons, List.drop_zero] at hn
        rw [nextAt] at hn
        split at hn
       all_goals rename_i hlt
       all_goals (try simp only [Int.add_zero] at hlt)
       all_goals first
        | (exfalso; omega)
        | exact ⟨⟨6, wrap64 (at_ + 1), by omega, by go_num, by simp, ⟨hn⟩, HBk⟩, by simp [intOf]⟩
        | (simp only [Prod.mk.injEq] at hn; obtain ⟨rfl, rfl, rfl⟩ := hn; go_ret3; exact ⟨rfl, HBk.out⟩)
      ·
       go_wp2
       all_goals simp only [hx6]
       all_goals go_wp2
       all_goals
        have hn := HN.out
        clear HN
        simp only [List.drop_succ_cons, List.drop_zero] at hn
        rw [nextAt] at hn
        split at hn
       all_goals rename_i hlt
       all_goals (try simp only [Int.add_zero] at hlt)
       all_goals first
        | (exfalso; omega)
        | exact ⟨⟨7, wrap64 (at_ + 1), by omega, by go_num, by simp, ⟨hn⟩, HBk⟩, by simp [intOf]⟩
        | (simp only [Prod.mk.injEq] at hn; obtain ⟨rfl, rfl, rfl⟩ := hn; go_ret3; exact ⟨rfl, HBk.out⟩)
      ·
       go_wp2
       all_goals simp only [hx7]
       all_goals go_wp2
       all_goals
        have hn := HN.out
        clear HN
        simp only [List.drop_succ_cons, List.drop_zero] at hn
        rw [nextAt] at hn
        split at hn
       all_goals rename_i hlt
       all_goals (try simp only [Int.add_zero] at hlt)
       all_goals first
        | (exfalso; omega)
        | exact ⟨⟨8, wrap64 (at_ + 1), by omega, by go_num, by simp, ⟨hn⟩, HBk⟩, by simp [intOf]⟩
        | (simp only [Prod.mk.injEq] at hn; obtain ⟨rfl, rfl, rfl⟩ := hn; go_ret3; exact ⟨rfl, HBk.out⟩)
      ·
       go_wp2
       all_goals simp only [hx8]
       all_goals go_wp2
       all_goals
        have hn := HN.out
        clear HN
        simp only [List.drop_succ_cons, List.drop_zero] at hn
        rw [nextAt] at hn
        split at hn
       all_goals rename_i hlt
       all_goals (try simp only [Int.add_zero] at hlt)
       all_goals first
        | (exfalso; omega)
        | exact ⟨⟨9, wrap64 (at_ + 7), by omega, by go_num, by simp, ⟨hn⟩, HBk⟩, by simp [intOf]⟩
        | (simp only [Prod.mk.injEq] at hn; obtain ⟨rfl, rfl, rfl⟩ := hn; go_ret3; exact ⟨rfl, HBk.out⟩)
      ·
       go_wp2
       all_goals
        have hn := HN.out
        clear HN
        simp only [List.drop_succ_cons, List.drop_zero] at hn
        rw [nextAt] at hn
        split at hn
       all_goals rename_i hlt
       all_goals (try simp only [Int.add_zero] at hlt)
       all_goals first
        | (exfalso; omega)
        | (simp only [Prod.mk.injEq] at hn; obtain ⟨rfl, rfl, rfl⟩ := hn; go_ret3; exact ⟨rfl, HBk.out⟩)
   ·
    have e2d : ¬ ((l0.length : Int) ≤ 32) := e2c rfl
    have e2e : ¬ (l0.length ≤ 32) := by omega
    go_wp2_with (first | (go_at_call 53; refine HC.out.mono ?_; rintro e w1 ⟨rfl, hd⟩; have HB1 := Aside0.mk hd.below; clear hd) | (go_at_call 54; refine (HRD.out _ HB1.out).mono ?_; rintro e w2 ⟨rfl, hb⟩; have HB2 := Aside0.mk (zqbf HB1.out HB1.out.size hb); clear hb))
    go_region_with (go_at_call 55; refine (HS.out _).mono ?_; rintro e w3 ⟨rfl, hb⟩; have HB3 := Aside0.mk (zqak (zqae (zqad HB2.out _)) hb); have hc3 := (head_cell hb 3).trans (rfl : _ = some (Value.int .i64 h4)); clear hb)
    all_goals
     go_simp
     go_wp2
     go_loopw [52, 8] (fun i v wr => ∃ (k : Nat) (at_ : Int), k ≤ 9 ∧ i = .int .i64 (k : Int) ∧ v = .int .i64 at_ ∧ Aside0 (nextAt (l0.length : Int) (([0, 0, 0, wrap64 (s - h4), 15, 1, 1, 1, 7] : List Int).drop k) (k : Int) at_ = (r1, r2, r3)) ∧ Aside0 (Below w.heap.size w wr)) (fun i _ _ => 9 - (intOf i).toNat)
     case atStart => exact ⟨0, h4, by omega, rfl, rfl, ⟨HA.out⟩, HB3⟩
     case round =>
      obtain ⟨k, at_, hk, rfl, rfl, HN, HBk⟩ := hrel
      have hk9 : k = 0 ∨ k = 1 ∨ k = 2 ∨ k = 3 ∨ k = 4 ∨ k = 5 ∨ k = 6 ∨ k = 7 ∨ k = 8 ∨ k = 9 := by omega
      rcases hk9 with rfl | rfl | rfl | rfl | rfl | rfl | rfl | rfl | rfl | rfl
      ·
       go_wp2
       all_goals simp only [hx0]
       all_goals go_wp2
       all_goals
        have hn := HN.out
        clear HN
        simp only [List.drop_succ_cons, List.drop_zero] at hn
        rw [nextAt] at hn
        split at hn
       all_goals rename_i hlt
       all_goals (try simp only [Int.add_zero] at hlt)
       all_goals first
        | (exfalso; omega)
        | exact ⟨⟨1, wrap64 (at_ + 0), by omega, by go_num, by simp, ⟨hn⟩, HBk⟩, by simp [intOf]⟩
        | (simp only [Prod.mk.injEq] at hn; obtain ⟨rfl, rfl, rfl⟩ := hn; go_ret3; exact ⟨rfl, HBk.out⟩)
      ·
       go_wp2
       all_goals simp only [hx1]
       all_goals go_wp2
       all_goals
        have hn := HN.out
        clear HN
        simp only [List.drop_succ_cons, List.drop_zero] at hn
        rw [nextAt] at hn
        split at hn
       all_goals rename_i hlt
       all_goals (try simp only [Int.add_zero] at hlt)
       all_goals first
        | (exfalso; omega)
        | exact ⟨⟨2, wrap64 (at_ + 0), by omega, by go_num, by simp, ⟨hn⟩, HBk⟩, by simp [intOf]⟩
        | (simp only [Prod.mk.injEq] at hn; obtain ⟨rfl, rfl, rfl⟩ := hn; go_ret3; exact ⟨rfl, HBk.out⟩)
      ·
       go_wp2
       all_goals simp only [hx2]
       all_goals go_wp2
       all_goals
        have hn := HN.out
        clear HN
        simp only [List.drop_succ_cons, List.drop_zero] at hn
        rw [nextAt] at hn
        split at hn
       all_goals rename_i hlt
       all_goals (try simp only [Int.add_zero] at hlt)
       all_goals first
        | (exfalso; omega)
        | exact ⟨⟨3, wrap64 (at_ + 0), by omega, by go_num, by simp, ⟨hn⟩, HBk⟩, by simp [intOf]⟩
        | (simp only [Prod.mk.injEq] at hn; obtain ⟨rfl, rfl, rfl⟩ := hn; go_ret3; exact ⟨rfl, HBk.out⟩)
      ·
       go_wp2
       all_goals simp only [hx3]
       all_goals go_wp2
       all_goals
        have hn := HN.out
        clear HN
        simp only [List.drop_succ_cons, List.drop_zero] at hn
        rw [nextAt] at hn
        split at hn
       all_goals rename_i hlt
       all_goals (try simp only [Int.add_zero] at hlt)
       all_goals first
        | (exfalso; omega)
        | exact ⟨⟨4, wrap64 (at_ + wrap64 (s - h4)), by omega, by go_num, by simp, ⟨hn⟩, HBk⟩, by simp [intOf]⟩
        | (simp only [Prod.mk.injEq] at hn; obtain ⟨rfl, rfl, rfl⟩ := hn; go_ret3; exact ⟨rfl, HBk.out⟩)
      ·
       go_wp2
       all_goals simp only [hx4]
       all_goals go_wp2
       all_goals
        have hn := HN.out
        clear HN
        simp only [List.drop_succ_cons, List.drop_zero] at hn
        rw [nextAt] at hn
        split at hn
       all_goals rename_i hlt
       all_goals (try simp only [Int.add_zero] at hlt)
       all_goals first
        | (exfalso; omega)
        | exact ⟨⟨5, wrap64 (at_ + 15), by omega, by go_num, by simp, ⟨hn⟩, HBk⟩, by simp [intOf]⟩
        | (simp only [Prod.mk.injEq] at hn; obtain ⟨rfl, rfl, rfl⟩ := hn; go_ret3; exact ⟨rfl, HBk.out⟩)
      ·
       go_wp2
       all_goals simp only [hx5]
       all_goals go_wp2
       all_goals
        have hn := HN.out
        clear HN
        simp only [List.drop_succ_cons, List.drop_zero] at hn
        rw [nextAt] at hn
        split at hn
       all_goals rename_i hlt
       all_goals (try simp only [Int.add_zero] at hlt)
       all_goals first
        | (exfalso; omega)
        | exact ⟨⟨6, wrap64 (at_ + 1), by omega, by go_num, by simp, ⟨hn⟩, HBk⟩, by simp [intOf]⟩
        | (simp only [Prod.mk.injEq] at hn; obtain ⟨rfl, rfl, rfl⟩ := hn; go_ret3; exact ⟨rfl, HBk.out⟩)
      ·
       go_wp2
       all_goals simp only [hx6]
       all_goals go_wp2
       all_goals
        have hn := HN.out
        clear HN
        simp only [List.drop_succ_cons, List.drop_zero] at hn
        rw [nextAt] at hn
        split at hn
       all_goals rename_i hlt
       all_goals (try simp only [Int.add_zero] at hlt)
       all_goals first
        | (exfalso; omega)
        | exact ⟨⟨7, wrap64 (at_ + 1), by omega, by go_num, by simp, ⟨hn⟩, HBk⟩, by simp [intOf]⟩
        | (simp only [Prod.mk.injEq] at hn; obtain ⟨rfl, rfl, rfl⟩ := hn; go_ret3; exact ⟨rfl, HBk.out⟩)
      ·
       go_wp2
       all_goals simp only [hx7]
       all_goals go_wp2
       all_goals
        have hn := HN.out
        clear HN
        simp only [List.drop_succ_cons, List.drop_zero] at hn
        rw [nextAt] at hn
        split at hn
       all_goals rename_i hlt
       all_goals (try simp only [Int.add_zero] at hlt)
       all_goals first
        | (exfalso; omega)
        | exact ⟨⟨8, wrap64 (at_ + 1), by omega, by go_num, by simp, ⟨hn⟩, HBk⟩, by simp [intOf]⟩
        | (simp only [Prod.mk.injEq] at hn; obtain ⟨rfl, rfl, rfl⟩ := hn; go_ret3; exact ⟨rfl, HBk.out⟩)
      ·
       go_wp2
       all_goals simp only [hx8]
       all_goals go_wp2
       all_goals
        have hn := HN.out
        clear HN
        simp only [List.drop_succ_cons, List.drop_zero] at hn
        rw [nextAt] at hn
        split at hn
       all_goals rename_i hlt
       all_goals (try simp only [Int.add_zero] at hlt)
       all_goals first
        | (exfalso; omega)
        | exact ⟨⟨9, wrap64 (at_ + 7), by omega, by go_num, by simp, ⟨hn⟩, HBk⟩, by simp [intOf]⟩
        | (simp only [Prod.mk.injEq] at hn; obtain ⟨rfl, rfl, rfl⟩ := hn; go_ret3; exact ⟨rfl, HBk.out⟩)
      ·
       go_wp2
       all_goals
        have hn := HN.out
        clear HN
        simp only [List.drop_succ_cons, List.drop_zero] at hn
        rw [nextAt] at hn
        split at hn
       all_goals rename_i hlt
       all_goals (try simp only [Int.add_zero] at hlt)
       all_goals first
        | (exfalso; omega)
        | (simp only [Prod.mk.injEq] at hn; obtain ⟨rfl, rfl, rfl⟩ := hn; go_ret3; exact ⟨rfl, HBk.out⟩)


end Go.Proofs.Ytakemodmdhglnaa.PA
