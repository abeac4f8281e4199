/- Functions of the program, in plain Lean, and their walks (printed; half the indent). Conditions: none. -/
-- PRINTED by print.py (a twelfth state) out of the translation. Not trusted: Lean checks it.
import Derived.Test.YtakemodmdhglnaaPAx0
import Derived.Test.YtakemodmdhglnaaPAx8
import Derived.Test.YtakemodmdhglnaaPAx17
import Derived.Test.YtakemodmdhglnaaPAx19
import Derived.Test.YtakemodmdhglnaaPAx27
namespace Go.Proofs.Ytakemodmdhglnaa.PA
open Go.RowKit Go.Proofs.YtakemodmdhglnaaW.PrintWords Go.Proofs.YtakemodmdhglnaaW.PrintLast Go.Proofs.YtakemodmdhglnaaW.PrintMore
attribute [local go_sem] zqbb zqaz zqbd zqbe zqax zqay zqba zqbc   -- for this text's walks alone
set_option linter.unusedVariables false
set_option linter.unusedSimpArgs false

/-! HAND codec_Decode: function 35 -/
/-- What holds while levels are taken: the answer's frame, and the reader. -/
structure RdSt (w : World) (fr : Array Value) (b0 b1 : Nat) (W : World) (raw : List Int) (last run : Int) : Prop where
 bel : Below w.heap.size w W
 le0 : w.heap.size ≤ b0
 le1 : w.heap.size ≤ b1
 ne : b0 ≠ b1
 bk : W.heap[b0]? = some (.cells fr 24 (0, 0))
 own : ∃ v, W.heap[b1]? = some (.cells #[v, .int .i64 last, .int .i64 run] 80 (0, 0)) ∧ Kd.R (Kd.int .i64) 3 W w.heap.size (fun k => k ≠ b0 ∧ k ≠ b1) v raw
theorem RdSt.after {w : World} {fr : Array Value} {b0 b1 : Nat} {W W1 : World} {raw : List Int} {last run : Int} (h : RdSt w fr b0 b1 W raw last run) (hb : Below W.heap.size W W1) : RdSt w fr b0 b1 W1 raw last run := by
 obtain ⟨h1, h2, h3, h4, h5, ⟨v, h9, h10⟩⟩ := h
 exact ⟨zqbf h1 h1.size hb, h2, h3, h4, zqam h5 hb, ⟨v, zqam h9 hb, Kd.R_below h10 hb⟩⟩
theorem RdSt.size {w : World} {fr : Array Value} {b0 b1 : Nat} {W : World} {raw : List Int} {last run : Int} (h : RdSt w fr b0 b1 W raw last run) : b0 < W.heap.size ∧ b1 < W.heap.size := by
 obtain ⟨v, h9, _⟩ := h.own
 exact ⟨blk_lt h.bk, blk_lt h9⟩
theorem RdSt.set1 {w : World} {fr : Array Value} {b0 b1 : Nat} {W : World} {raw : List Int} {last run : Int} (h : RdSt w fr b0 b1 W raw last run) (x : Int) : RdSt w fr b0 b1 (W.setCell ⟨b1, 1, none⟩ (.int .i64 x)) raw x run := by
 obtain ⟨h1, h2, h3, h4, h5, ⟨v, h9, h10⟩⟩ := h
 exact ⟨zqah h1 h3, h2, h3, h4, zqas h5 h4 _, ⟨v, zqan h9 1 _ rfl, Kd.R_far h10 (fun _ hk => hk.2) _⟩⟩
theorem RdSt.set2 {w : World} {fr : Array Value} {b0 b1 : Nat} {W : World} {raw : List Int} {last run : Int} (h : RdSt w fr b0 b1 W raw last run) (x : Int) : RdSt w fr b0 b1 (W.setCell ⟨b1, 2, none⟩ (.int .i64 x)) raw last x := by
 obtain ⟨h1, h2, h3, h4, h5, ⟨v, h9, h10⟩⟩ := h
 exact ⟨zqah h1 h3, h2, h3, h4, zqas h5 h4 _, ⟨v, zqan h9 2 _ rfl, Kd.R_far h10 (fun _ hk => hk.2) _⟩⟩
theorem RdSt.facts {w : World} {fr : Array Value} {b0 b1 : Nat} {W : World} {raw : List Int} {last run : Int} (h : RdSt w fr b0 b1 W raw last run) : ∃ Ao co, Aside0 (W.heap[b1]? = some (.cells #[.slice Ao raw.length co, .int .i64 last, .int .i64 run] 80 (0, 0)) ∧ Kd.R (Kd.int .i64) 3 W w.heap.size (fun k => k ≠ b0 ∧ k ≠ b1) (.slice Ao raw.length co) raw) ∧ W.cell? ⟨b1, 0, none⟩ = some (.slice Ao raw.length co) ∧ W.cell? ⟨b1, 1, none⟩ = some (.int .i64 last) ∧ W.cell? ⟨b1, 2, none⟩ = some (.int .i64 run) ∧ W.frozen? ⟨b1, 0, none⟩ = false ∧ W.frozen? ⟨b1, 1, none⟩ = false ∧ W.frozen? ⟨b1, 2, none⟩ = false := by
 obtain ⟨v, hv, hR⟩ := h.own
 obtain ⟨Ao, co, rfl⟩ := Kd.R_slice hR
 exact ⟨Ao, co, ⟨hv, hR⟩, (zqab hv 0).trans rfl, (zqab hv 1).trans rfl, (zqab hv 2).trans rfl, zqaa hv 0, zqaa hv 1, zqaa hv 2⟩
theorem RdSt.next {w : World} {fr : Array Value} {b0 b1 : Nat} {W W1 : World} {raw l : List Int} {last run : Int} {v v1 : Value} (h : RdSt w fr b0 b1 W raw last run) (hv : W.heap[b1]? = some (.cells #[v, .int .i64 last, .int .i64 run] 80 (0, 0)))
  (hR : Kd.R (Kd.int .i64) 3 W w.heap.size (fun k => k ≠ b0 ∧ k ≠ b1) v raw) (ho : Kd.R (Kd.int .i64) 3 W1 w.heap.size (fun k => k ≠ b0 ∧ k ≠ b1) v1 (raw ++ l)) (hb : Below w.heap.size w W1) (hg : W.grownBy W1 v.ownBlock) :
  W1.heap[b1]? = some (.cells #[v, .int .i64 last, .int .i64 run] 80 (0, 0)) ∧ RdSt w fr b0 b1 (W1.setCell ⟨b1, 0, none⟩ v1) (raw ++ l) last run := by
 have hn0 : some b0 ≠ v.ownBlock := Kd.R_away hR (fun _ hk => hk.1)
 have hn1 : some b1 ≠ v.ownBlock := Kd.R_away hR (fun _ hk => hk.2)
 have e0 := zqaw h.bk hg hn0
 have e1 := zqaw hv hg hn1
 exact ⟨e1, zqah hb h.le1, h.le0, h.le1, h.ne, zqas e0 h.ne _, ⟨v1, zqan e1 0 v1 rfl, Kd.R_far ho (fun k hk => hk.2) _⟩⟩
/-- A level is taken: what is wrong with it; the levels, the last one, and how many are alike then. -/
def takeRun (k last run level : Int) : Int := if k ≤ 4 then (if run > 0 ∧ level = last then wrap64 (run + 1) else 1) else 0
def takeEnd (k : Int) (raw : List Int) (last run level : Int) : Option (Int × List Int × Int × Int) :=
 if 4 < k ∧ k ≠ 6 ∧ level = 0 then some (11, raw, last, run) else if raw.length ≤ 100000 then some (0, raw ++ [level], last, run) else none
def takeF (raw : List Int) (last run level : Int) : Option (Int × List Int × Int × Int) :=
 if run = 5 then (if level = last then some (17, raw, last, run) else some (0, raw, level, 1))
 else (field_Next.f raw).bind fun n =>
  if n.2.2 ≠ 0 then some (n.2.2, raw, last, run)
  else if n.1 = 0 ∧ level = 1 then some (11, raw, last, run)
  else if n.1 = 5 then (field_Right.f 1000 raw).bind fun q => if q.2 ≠ 0 ∨ q.1 = false then some (18, raw, last, 0) else takeEnd n.1 raw last 0 level
  else takeEnd n.1 raw (if n.1 ≤ 4 then level else last) (takeRun n.1 last run level) level
set_option maxHeartbeats 4000000 in
set_option maxRecDepth 100000 in
theorem take.A (w W : World) (fr : Array Value) (b0 b1 : Nat) (raw : List Int) (last level r last' run' : Int) (raw' : List Int) (h : RdSt w fr b0 b1 W raw last 5) (ht : (if level = last then some ((17 : Int), raw, last, (5 : Int)) else some (0, raw, level, 1)) = some (r, raw', last', run')) :
  Calls Try.prog 62 #[.pointer (some ⟨b1, 0, none⟩), .int .i64 level] W fun e w' => e = .returned (.int .i64 r) ∧ RdSt w fr b0 b1 w' raw' last' run' := by
 have HP := Aside0.mk h
 obtain ⟨A0, c0, HF, g0, g1, g2, f0, f1, f2⟩ := h.facts
 clear h
 by_cases c : level = last
 ·
  subst c
  rw [if_pos rfl] at ht
  simp only [Option.some.injEq, Prod.mk.injEq] at ht
  obtain ⟨rfl, rfl, rfl, rfl⟩ := ht
  go_enter Try.func62, Try.ntmps62
  go_wp2
  go_ret
  exact ⟨rfl, HP.out⟩
 ·
  rw [if_neg c] at ht
  simp only [Option.some.injEq, Prod.mk.injEq] at ht
  obtain ⟨rfl, rfl, rfl, rfl⟩ := ht
  have cb : (level == last) = false := beq_eq_false_iff_ne.mpr c
  go_enter Try.func62, Try.ntmps62
  go_wp2
  go_ret
  exact ⟨rfl, (HP.out.set1 level).set2 1⟩
set_option maxHeartbeats 4000000 in
set_option maxRecDepth 100000 in
theorem take.B0 (w W : World) (fr : Array Value) (b0 b1 : Nat) (raw : List Int) (last run level kd n er : Int) (h : RdSt w fr b0 b1 W raw last run) (hn : field_Next.f raw = some (kd, n, er)) (r5 : (run == 5) = false) (he : (er != 0) = true) :
  Calls Try.prog 62 #[.pointer (some ⟨b1, 0, none⟩), .int .i64 level] W fun e w' => e = .returned (.int .i64 er) ∧ RdSt w fr b0 b1 w' raw last run := by
 have HP0 := Aside0.mk h
 obtain ⟨A0, c0, HF0, g0, g1, g2, f0, f1, f2⟩ := h.facts
 clear h
 have HN := Aside0.mk hn
 clear hn
 go_enter Try.func62, Try.ntmps62
 go_wp2_with (go_at_call 23; refine (field_Next.calls A0 c0 raw kd n er _ (Kd.R_reads' HF0.out.2).2.2 (Kd.R_reads' HF0.out.2).2.1 HN.out).mono ?_; rintro e W1 ⟨rfl, hb⟩; have HP1 := Aside0.mk (HP0.out.after hb); clear hb; obtain ⟨A1, c1, HF1, g10, g11, g12, f10, f11, f12⟩ := HP1.out.facts)
 go_ret
 exact ⟨rfl, HP1.out⟩
set_option maxHeartbeats 4000000 in
set_option maxRecDepth 100000 in
theorem take.B1 (w W : World) (fr : Array Value) (b0 b1 : Nat) (raw : List Int) (last run level kd n er : Int) (h : RdSt w fr b0 b1 W raw last run) (hn : field_Next.f raw = some (kd, n, er)) (r5 : (run == 5) = false) (he : (er != 0) = false) (hk : (kd == 0) = true) (hv : (level == 1) = true) :
  Calls Try.prog 62 #[.pointer (some ⟨b1, 0, none⟩), .int .i64 level] W fun e w' => e = .returned (.int .i64 11) ∧ RdSt w fr b0 b1 w' raw last run := by
 have HP0 := Aside0.mk h
 obtain ⟨A0, c0, HF0, g0, g1, g2, f0, f1, f2⟩ := h.facts
 clear h
 have HN := Aside0.mk hn
 clear hn
 go_enter Try.func62, Try.ntmps62
 go_wp2_with (go_at_call 23; refine (field_Next.calls A0 c0 raw kd n er _ (Kd.R_reads' HF0.out.2).2.2 (Kd.R_reads' HF0.out.2).2.1 HN.out).mono ?_; rintro e W1 ⟨rfl, hb⟩; have HP1 := Aside0.mk (HP0.out.after hb); clear hb; obtain ⟨A1, c1, HF1, g10, g11, g12, f10, f11, f12⟩ := HP1.out.facts)
 go_ret
 exact ⟨rfl, HP1.out⟩
set_option maxHeartbeats 4000000 in
set_option maxRecDepth 100000 in
theorem take.D1 (w W : World) (fr : Array Value) (b0 b1 : Nat) (raw : List Int) (last run level kd n er : Int) (h : RdSt w fr b0 b1 W raw last run) (hn : field_Next.f raw = some (kd, n, er)) (r5 : (run == 5) = false) (he : (er != 0) = false) (hk : (kd == 0) = true ∧ (level == 1) = false ∨ (kd == 0) = false) (k4 : decide (kd ≤ 4) = true) (k5 : (kd == 5) = false) (kg : decide (4 < kd) = false) (q1 : decide (0 < run) = true) (q2 : (level == last) = true) (hl : raw.length ≤ 100000) :
  Calls Try.prog 62 #[.pointer (some ⟨b1, 0, none⟩), .int .i64 level] W fun e w' => e = .returned (.int .i64 0) ∧ RdSt w fr b0 b1 w' (raw ++ [level]) level (wrap64 (run + 1)) := by
 have HP0 := Aside0.mk h
 obtain ⟨A0, c0, HF0, g0, g1, g2, f0, f1, f2⟩ := h.facts
 clear h
 have HN := Aside0.mk hn
 clear hn
 have HL : Aside0 ((raw.length + 1) * 8 ≤ 140737488355328) := ⟨by omega⟩
 clear hl
 rcases hk with ⟨hk, hv⟩ | hk
 ·
  go_enter Try.func62, Try.ntmps62
  go_wp2_with (first | (go_at_call 23; refine (field_Next.calls A0 c0 raw kd n er _ (Kd.R_reads' HF0.out.2).2.2 (Kd.R_reads' HF0.out.2).2.1 HN.out).mono ?_; rintro e W1 ⟨rfl, hb⟩; have HP1 := Aside0.mk (HP0.out.after hb); clear hb; obtain ⟨A1, c1, HF1, g10, g11, g12, f10, f11, f12⟩ := HP1.out.facts) | ((with_reducible refine zqau (t := 3) (p := 73) rfl ?_); refine zqap (t := 3) (p := 73) (v := ?vo2) (w1 := (W1.setCell ⟨b1, 2, none⟩ (.int .i64 (wrap64 (run + 1))))) ?hg ?ho ?hn ?hr ?_; (case ho => rfl); (case hg => rfl); (case hn => rfl); (case hr => first | (go_simp; done) | (go_simp; rfl)); intro W2 hw; have HP2 := Aside0.mk (by rw [hw]; exact HP1.out.set2 _ : RdSt w fr b0 b1 W2 raw _ _); clear hw; obtain ⟨A2, c2, HF2, g20, g21, g22, f20, f21, f22⟩ := HP2.out.facts) | ((with_reducible refine zqau (t := 3) (p := 80) rfl ?_); refine zqap (t := 3) (p := 80) (v := ?vo3) (w1 := (W2.setCell ⟨b1, 1, none⟩ (.int .i64 (level)))) ?hg ?ho ?hn ?hr ?_; (case ho => rfl); (case hg => rfl); (case hn => rfl); (case hr => first | (go_simp; done) | (go_simp; rfl)); intro W3 hw; have HP3 := Aside0.mk (by rw [hw]; exact HP2.out.set1 _ : RdSt w fr b0 b1 W3 raw _ _); clear hw; obtain ⟨A3, c3, HF3, g30, g31, g32, f30, f31, f32⟩ := HP3.out.facts) | ((with_reducible refine zqao (b := .append) (xs := #[.tmp 111, .tmp 113]) rfl ?_); at_builtin; refine Kd.R_append (Kd.int .i64) (w0 := w) w.heap.size rfl (.tmp 111) (.tmp 113) 25 3 (.int .i64 0) 8 rfl Try.underlying25 info3 rfl (by decide) (by omega) (.slice A3 raw.length c3) raw level [.int .i64 level] (fun k => k ≠ b0 ∧ k ≠ b1) (fun _ => False) rfl ?aX ?aP (fun _ hk => hk.elim) ?aF ?aO ?aB ?aS ?aL ?_; (case aX => rfl); (case aP => exact rfl); (case aF => intro k hk; have := HP3.out.size; omega); (case aO => exact HF3.out.2); (case aB => exact HP3.out.bel); (case aS => exact HP3.out.bel.size); (case aL => exact HL.out); intro v1 X1 ho hb hg hat; obtain ⟨Ax, cx, ex⟩ := Kd.R_slice ho; subst ex; have HX := Aside0.mk (HP3.out.next HF3.out.1 HF3.out.2 ho hb hg); have cX : X1.cell? ⟨b1, 0, none⟩ = some (.slice A3 raw.length c3) := (zqab HX.out.1 0).trans rfl; have fX := zqaa HX.out.1 0; clear ho hb hg hat))
  go_ret
  exact ⟨rfl, by have h_ := HX.out.2; simp only [List.length_append, List.length_singleton] at h_; exact h_⟩
 ·
  go_enter Try.func62, Try.ntmps62
  go_wp2_with (first | (go_at_call 23; refine (field_Next.calls A0 c0 raw kd n er _ (Kd.R_reads' HF0.out.2).2.2 (Kd.R_reads' HF0.out.2).2.1 HN.out).mono ?_; rintro e W1 ⟨rfl, hb⟩; have HP1 := Aside0.mk (HP0.out.after hb); clear hb; obtain ⟨A1, c1, HF1, g10, g11, g12, f10, f11, f12⟩ := HP1.out.facts) | ((with_reducible refine zqau (t := 3) (p := 73) rfl ?_); refine zqap (t := 3) (p := 73) (v := ?vo2) (w1 := (W1.setCell ⟨b1, 2, none⟩ (.int .i64 (wrap64 (run + 1))))) ?hg ?ho ?hn ?hr ?_; (case ho => rfl); (case hg => rfl); (case hn => rfl); (case hr => first | (go_simp; done) | (go_simp; rfl)); intro W2 hw; have HP2 := Aside0.mk (by rw [hw]; exact HP1.out.set2 _ : RdSt w fr b0 b1 W2 raw _ _); clear hw; obtain ⟨A2, c2, HF2, g20, g21, g22, f20, f21, f22⟩ := HP2.out.facts) | ((with_reducible refine zqau (t := 3) (p := 80) rfl ?_); refine zqap (t := 3) (p := 80) (v := ?vo3) (w1 := (W2.setCell ⟨b1, 1, none⟩ (.int .i64 (level)))) ?hg ?ho ?hn ?hr ?_; (case ho => rfl); (case hg => rfl); (case hn => rfl); (case hr => first | (go_simp; done) | (go_simp; rfl)); intro W3 hw; have HP3 := Aside0.mk (by rw [hw]; exact HP2.out.set1 _ : RdSt w fr b0 b1 W3 raw _ _); clear hw; obtain ⟨A3, c3, HF3, g30, g31, g32, f30, f31, f32⟩ := HP3.out.facts) | ((with_reducible refine zqao (b := .append) (xs := #[.tmp 111, .tmp 113]) rfl ?_); at_builtin; refine Kd.R_append (Kd.int .i64) (w0 := w) w.heap.size rfl (.tmp 111) (.tmp 113) 25 3 (.int .i64 0) 8 rfl Try.underlying25 info3 rfl (by decide) (by omega) (.slice A3 raw.length c3) raw level [.int .i64 level] (fun k => k ≠ b0 ∧ k ≠ b1) (fun _ => False) rfl ?aX ?aP (fun _ hk => hk.elim) ?aF ?aO ?aB ?aS ?aL ?_; (case aX => rfl); (case aP => exact rfl); (case aF => intro k hk; have := HP3.out.size; omega); (case aO => exact HF3.out.2); (case aB => exact HP3.out.bel); (case aS => exact HP3.out.bel.size); (case aL => exact HL.out); intro v1 X1 ho hb hg hat; obtain ⟨Ax, cx, ex⟩ := Kd.R_slice ho; subst ex; have HX := Aside0.mk (HP3.out.next HF3.out.1 HF3.out.2 ho hb hg); have cX : X1.cell? ⟨b1, 0, none⟩ = some (.slice A3 raw.length c3) := (zqab HX.out.1 0).trans rfl; have fX := zqaa HX.out.1 0; clear ho hb hg hat))
  go_ret
  exact ⟨rfl, by have h_ := HX.out.2; simp only [List.length_append, List.length_singleton] at h_; exact h_⟩
set_option maxHeartbeats 4000000 in
set_option maxRecDepth 100000 in
theorem take.D2 (w W : World) (fr : Array Value) (b0 b1 : Nat) (raw : List Int) (last run level kd n er : Int) (h : RdSt w fr b0 b1 W raw last run) (hn : field_Next.f raw = some (kd, n, er)) (r5 : (run == 5) = false) (he : (er != 0) = false) (hk : (kd == 0) = true ∧ (level == 1) = false ∨ (kd == 0) = false) (k4 : decide (kd ≤ 4) = true) (k5 : (kd == 5) = false) (kg : decide (4 < kd) = false) (q1 : decide (0 < run) = true) (q2 : (level == last) = false) (hl : raw.length ≤ 100000) :
  Calls Try.prog 62 #[.pointer (some ⟨b1, 0, none⟩), .int .i64 level] W fun e w' => e = .returned (.int .i64 0) ∧ RdSt w fr b0 b1 w' (raw ++ [level]) level 1 := by
 have HP0 := Aside0.mk h
 obtain ⟨A0, c0, HF0, g0, g1, g2, f0, f1, f2⟩ := h.facts
 clear h
 have HN := Aside0.mk hn
 clear hn
 have HL : Aside0 ((raw.length + 1) * 8 ≤ 140737488355328) := ⟨by omega⟩
 clear hl
 rcases hk with ⟨hk, hv⟩ | hk
 ·
  go_enter Try.func62, Try.ntmps62
  go_wp2_with (first | (go_at_call 23; refine (field_Next.calls A0 c0 raw kd n er _ (Kd.R_reads' HF0.out.2).2.2 (Kd.R_reads' HF0.out.2).2.1 HN.out).mono ?_; rintro e W1 ⟨rfl, hb⟩; have HP1 := Aside0.mk (HP0.out.after hb); clear hb; obtain ⟨A1, c1, HF1, g10, g11, g12, f10, f11, f12⟩ := HP1.out.facts) | ((with_reducible refine zqau (t := 3) (p := 76) rfl ?_); refine zqap (t := 3) (p := 76) (v := ?vo2) (w1 := (W1.setCell ⟨b1, 2, none⟩ (.int .i64 (1)))) ?hg ?ho ?hn ?hr ?_; (case ho => rfl); (case hg => rfl); (case hn => rfl); (case hr => first | (go_simp; done) | (go_simp; rfl)); intro W2 hw; have HP2 := Aside0.mk (by rw [hw]; exact HP1.out.set2 _ : RdSt w fr b0 b1 W2 raw _ _); clear hw; obtain ⟨A2, c2, HF2, g20, g21, g22, f20, f21, f22⟩ := HP2.out.facts) | ((with_reducible refine zqau (t := 3) (p := 80) rfl ?_); refine zqap (t := 3) (p := 80) (v := ?vo3) (w1 := (W2.setCell ⟨b1, 1, none⟩ (.int .i64 (level)))) ?hg ?ho ?hn ?hr ?_; (case ho => rfl); (case hg => rfl); (case hn => rfl); (case hr => first | (go_simp; done) | (go_simp; rfl)); intro W3 hw; have HP3 := Aside0.mk (by rw [hw]; exact HP2.out.set1 _ : RdSt w fr b0 b1 W3 raw _ _); clear hw; obtain ⟨A3, c3, HF3, g30, g31, g32, f30, f31, f32⟩ := HP3.out.facts) | ((with_reducible refine zqao (b := .append) (xs := #[.tmp 111, .tmp 113]) rfl ?_); at_builtin; refine Kd.R_append (Kd.int .i64) (w0 := w) w.heap.size rfl (.tmp 111) (.tmp 113) 25 3 (.int .i64 0) 8 rfl Try.underlying25 info3 rfl (by decide) (by omega) (.slice A3 raw.length c3) raw level [.int .i64 level] (fun k => k ≠ b0 ∧ k ≠ b1) (fun _ => False) rfl ?aX ?aP (fun _ hk => hk.elim) ?aF ?aO ?aB ?aS ?aL ?_; (case aX => rfl); (case aP => exact rfl); (case aF => intro k hk; have := HP3.out.size; omega); (case aO => exact HF3.out.2); (case aB => exact HP3.out.bel); (case aS => exact HP3.out.bel.size); (case aL => exact HL.out); intro v1 X1 ho hb hg hat; obtain ⟨Ax, cx, ex⟩ := Kd.R_slice ho; subst ex; have HX := Aside0.mk (HP3.out.next HF3.out.1 HF3.out.2 ho hb hg); have cX : X1.cell? ⟨b1, 0, none⟩ = some (.slice A3 raw.length c3) := (zqab HX.out.1 0).trans rfl; have fX := zqaa HX.out.1 0; clear ho hb hg hat))
  go_ret
  exact ⟨rfl, by have h_ := HX.out.2; simp only [List.length_append, List.length_singleton] at h_; exact h_⟩
 ·
  go_enter Try.func62, Try.ntmps62
  go_wp2_with (first | (go_at_call 23; refine (field_Next.calls A0 c0 raw kd n er _ (Kd.R_reads' HF0.out.2).2.2 (Kd.R_reads' HF0.out.2).2.1 HN.out).mono ?_; rintro e W1 ⟨rfl, hb⟩; have HP1 := Aside0.mk (HP0.out.after hb); clear hb; obtain ⟨A1, c1, HF1, g10, g11, g12, f10, f11, f12⟩ := HP1.out.facts) | ((with_reducible refine zqau (t := 3) (p := 76) rfl ?_); refine zqap (t := 3) (p := 76) (v := ?vo2) (w1 := (W1.setCell ⟨b1, 2, none⟩ (.int .i64 (1)))) ?hg ?ho ?hn ?hr ?_; (case ho => rfl); (case hg => rfl); (case hn => rfl); (case hr => first | (go_simp; done) | (go_simp; rfl)); intro W2 hw; have HP2 := Aside0.mk (by rw [hw]; exact HP1.out.set2 _ : RdSt w fr b0 b1 W2 raw _ _); clear hw; obtain ⟨A2, c2, HF2, g20, g21, g22, f20, f21, f22⟩ := HP2.out.facts) | ((with_reducible refine zqau (t := 3) (p := 80) rfl ?_); refine zqap (t := 3) (p := 80) (v := ?vo3) (w1 := (W2.setCell ⟨b1, 1, none⟩ (.int .i64 (level)))) ?hg ?ho ?hn ?hr ?_; (case ho => rfl); (case hg => rfl); (case hn => rfl); (case hr => first | (go_simp; done) | (go_simp; rfl)); intro W3 hw; have HP3 := Aside0.mk (by rw [hw]; exact HP2.out.set1 _ : RdSt w fr b0 b1 W3 raw _ _); clear hw; obtain ⟨A3, c3, HF3, g30, g31, g32, f30, f31, f32⟩ := HP3.out.facts) | ((with_reducible refine zqao (b := .append) (xs := #[.tmp 111, .tmp 113]) rfl ?_); at_builtin; refine Kd.R_append (Kd.int .i64) (w0 := w) w.heap.size rfl (.tmp 111) (.tmp 113) 25 3 (.int .i64 0) 8 rfl Try.underlying25 info3 rfl (by decide) (by omega) (.slice A3 raw.length c3) raw level [.int .i64 level] (fun k => k ≠ b0 ∧ k ≠ b1) (fun _ => False) rfl ?aX ?aP (fun _ hk => hk.elim) ?aF ?aO ?aB ?aS ?aL ?_; (case aX => rfl); (case aP => exact rfl); (case aF => intro k hk; have := HP3.out.size; omega); (case aO => exact HF3.out.2); (case aB => exact HP3.out.bel); (case aS => exact HP3.out.bel.size); (case aL => exact HL.out); intro v1 X1 ho hb hg hat; obtain ⟨Ax, cx, ex⟩ := Kd.R_slice ho; subst ex; have HX := Aside0.mk (HP3.out.next HF3.out.1 HF3.out.2 ho hb hg); have cX : X1.cell? ⟨b1, 0, none⟩ = some (.slice A3 raw.length c3) := (zqab HX.out.1 0).trans rfl; have fX := zqaa HX.out.1 0; clear ho hb hg hat))
  go_ret
  exact ⟨rfl, by have h_ := HX.out.2; simp only [List.length_append, List.length_singleton] at h_; exact h_⟩
set_option maxHeartbeats 4000000 in
set_option maxRecDepth 100000 in
theorem take.D3 (w W : World) (fr : Array Value) (b0 b1 : Nat) (raw : List Int) (last run level kd n er : Int) (h : RdSt w fr b0 b1 W raw last run) (hn : field_Next.f raw = some (kd, n, er)) (r5 : (run == 5) = false) (he : (er != 0) = false) (hk : (kd == 0) = true ∧ (level == 1) = false ∨ (kd == 0) = false) (k4 : decide (kd ≤ 4) = true) (k5 : (kd == 5) = false) (kg : decide (4 < kd) = false) (q1 : decide (0 < run) = false) (hl : raw.length ≤ 100000) :
  Calls Try.prog 62 #[.pointer (some ⟨b1, 0, none⟩), .int .i64 level] W fun e w' => e = .returned (.int .i64 0) ∧ RdSt w fr b0 b1 w' (raw ++ [level]) level 1 := by
 have HP0 := Aside0.mk h
 obtain ⟨A0, c0, HF0, g0, g1, g2, f0, f1, f2⟩ := h.facts
 clear h
 have HN := Aside0.mk hn
 clear hn
 have HL : Aside0 ((raw.length + 1) * 8 ≤ 140737488355328) := ⟨by omega⟩
 clear hl
 rcases hk with ⟨hk, hv⟩ | hk
 ·
  go_enter Try.func62, Try.ntmps62
  go_wp2_with (first | (go_at_call 23; refine (field_Next.calls A0 c0 raw kd n er _ (Kd.R_reads' HF0.out.2).2.2 (Kd.R_reads' HF0.out.2).2.1 HN.out).mono ?_; rintro e W1 ⟨rfl, hb⟩; have HP1 := Aside0.mk (HP0.out.after hb); clear hb; obtain ⟨A1, c1, HF1, g10, g11, g12, f10, f11, f12⟩ := HP1.out.facts) | ((with_reducible refine zqau (t := 3) (p := 76) rfl ?_); refine zqap (t := 3) (p := 76) (v := ?vo2) (w1 := (W1.setCell ⟨b1, 2, none⟩ (.int .i64 (1)))) ?hg ?ho ?hn ?hr ?_; (case ho => rfl); (case hg => rfl); (case hn => rfl); (case hr => first | (go_simp; done) | (go_simp; rfl)); intro W2 hw; have HP2 := Aside0.mk (by rw [hw]; exact HP1.out.set2 _ : RdSt w fr b0 b1 W2 raw _ _); clear hw; obtain ⟨A2, c2, HF2, g20, g21, g22, f20, f21, f22⟩ := HP2.out.facts) | ((with_reducible refine zqau (t := 3) (p := 80) rfl ?_); refine zqap (t := 3) (p := 80) (v := ?vo3) (w1 := (W2.setCell ⟨b1, 1, none⟩ (.int .i64 (level)))) ?hg ?ho ?hn ?hr ?_; (case ho => rfl); (case hg => rfl); (case hn => rfl); (case hr => first | (go_simp; done) | (go_simp; rfl)); intro W3 hw; have HP3 := Aside0.mk (by rw [hw]; exact HP2.out.set1 _ : RdSt w fr b0 b1 W3 raw _ _); clear hw; obtain ⟨A3, c3, HF3, g30, g31, g32, f30, f31, f32⟩ := HP3.out.facts) | ((with_reducible refine zqao (b := .append) (xs := #[.tmp 111, .tmp 113]) rfl ?_); at_builtin; refine Kd.R_append (Kd.int .i64) (w0 := w) w.heap.size rfl (.tmp 111) (.tmp 113) 25 3 (.int .i64 0) 8 rfl Try.underlying25 info3 rfl (by decide) (by omega) (.slice A3 raw.length c3) raw level [.int .i64 level] (fun k => k ≠ b0 ∧ k ≠ b1) (fun _ => False) rfl ?aX ?aP (fun _ hk => hk.elim) ?aF ?aO ?aB ?aS ?aL ?_; (case aX => rfl); (case aP => exact rfl); (case aF => intro k hk; have := HP3.out.size; omega); (case aO => exact HF3.out.2); (case aB => exact HP3.out.bel); (case aS => exact HP3.out.bel.size); (case aL => exact HL.out); intro v1 X1 ho hb hg hat; obtain ⟨Ax, cx, ex⟩ := Kd.R_slice ho; subst ex; have HX := Aside0.mk (HP3.out.next HF3.out.1 HF3.out.2 ho hb hg); have cX : X1.cell? ⟨b1, 0, none⟩ = some (.slice A3 raw.length c3) := (zqab HX.out.1 0).trans rfl; have fX := zqaa HX.out.1 0; clear ho hb hg hat))
  go_ret
  exact ⟨rfl, by have h_ := HX.out.2; simp only [List.length_append, List.length_singleton] at h_; exact h_⟩
 ·
  go_enter Try.func62, Try.ntmps62
  go_wp2_with (first | (go_at_call 23; refine (field_Next.calls A0 c0 raw kd n er _ (Kd.R_reads' HF0.out.2).2.2 (Kd.R_reads' HF0.out.2).2.1 HN.out).mono ?_; rintro e W1 ⟨rfl, hb⟩; have HP1 := Aside0.mk (HP0.out.after hb); clear hb; obtain ⟨A1, c1, HF1, g10, g11, g12, f10, f11, f12⟩ := HP1.out.facts) | ((with_reducible refine zqau (t := 3) (p := 76) rfl ?_); refine zqap (t := 3) (p := 76) (v := ?vo2) (w1 := (W1.setCell ⟨b1, 2, none⟩ (.int .i64 (1)))) ?hg ?ho ?hn ?hr ?_; (case ho => rfl); (case hg => rfl); (case hn => rfl); (case hr => first | (go_simp; done) | (go_simp; rfl)); intro W2 hw; have HP2 := Aside0.mk (by rw [hw]; exact HP1.out.set2 _ : RdSt w fr b0 b1 W2 raw _ _); clear hw; obtain ⟨A2, c2, HF2, g20, g21, g22, f20, f21, f22⟩ := HP2.out.facts) | ((with_reducible refine zqau (t := 3) (p := 80) rfl ?_); refine zqap (t := 3) (p := 80) (v := ?vo3) (w1 := (W2.setCell ⟨b1, 1, none⟩ (.int .i64 (level)))) ?hg ?ho ?hn ?hr ?_; (case ho => rfl); (case hg => rfl); (case hn => rfl); (case hr => first | (go_simp; done) | (go_simp; rfl)); intro W3 hw; have HP3 := Aside0.mk (by rw [hw]; exact HP2.out.set1 _ : RdSt w fr b0 b1 W3 raw _ _); clear hw; obtain ⟨A3, c3, HF3, g30, g31, g32, f30, f31, f32⟩ := HP3.out.facts) | ((with_reducible refine zqao (b := .append) (xs := #[.tmp 111, .tmp 113]) rfl ?_); at_builtin; refine Kd.R_append (Kd.int .i64) (w0 := w) w.heap.size rfl (.tmp 111) (.tmp 113) 25 3 (.int .i64 0) 8 rfl Try.underlying25 info3 rfl (by decide) (by omega) (.slice A3 raw.length c3) raw level [.int .i64 level] (fun k => k ≠ b0 ∧ k ≠ b1) (fun _ => False) rfl ?aX ?aP (fun _ hk => hk.elim) ?aF ?aO ?aB ?aS ?aL ?_; (case aX => rfl); (case aP => exact rfl); (case aF => intro k hk; have := HP3.out.size; omega); (case aO => exact HF3.out.2); (case aB => exact HP3.out.bel); (case aS => exact HP3.out.bel.size); (case aL => exact HL.out); intro v1 X1 ho hb hg hat; obtain ⟨Ax, cx, ex⟩ := Kd.R_slice ho; subst ex; have HX := Aside0.mk (HP3.out.next HF3.out.1 HF3.out.2 ho hb hg); have cX : X1.cell? ⟨b1, 0, none⟩ = some (.slice A3 raw.length c3) := (zqab HX.out.1 0).trans rfl; have fX := zqaa HX.out.1 0; clear ho hb hg hat))
  go_ret
  exact ⟨rfl, by have h_ := HX.out.2; simp only [List.length_append, List.length_singleton] at h_; exact h_⟩
set_option maxHeartbeats 4000000 in
set_option maxRecDepth 100000 in
theorem take.E1 (w W : World) (fr : Array Value) (b0 b1 : Nat) (raw : List Int) (last run level kd n er : Int) (h : RdSt w fr b0 b1 W raw last run) (hn : field_Next.f raw = some (kd, n, er)) (r5 : (run == 5) = false) (he : (er != 0) = false) (hk : (kd == 0) = true ∧ (level == 1) = false ∨ (kd == 0) = false) (k4 : decide (kd ≤ 4) = false) (k5 : (kd == 5) = true) (kg : decide (4 < kd) = true) (k6 : (kd != 6) = true) (is : Bool) (e2 : Int) (hq : field_Right.f 1000 raw = some (is, e2)) (qe : (e2 != 0) = true) :
  Calls Try.prog 62 #[.pointer (some ⟨b1, 0, none⟩), .int .i64 level] W fun e w' => e = .returned (.int .i64 18) ∧ RdSt w fr b0 b1 w' raw last 0 := by
 have HP0 := Aside0.mk h
 obtain ⟨A0, c0, HF0, g0, g1, g2, f0, f1, f2⟩ := h.facts
 clear h
 have HN := Aside0.mk hn
 clear hn
 have HQ := Aside0.mk hq
 clear hq
 rcases hk with ⟨hk, hv⟩ | hk
 ·
  go_enter Try.func62, Try.ntmps62
  go_wp2_with (first | (go_at_call 23; refine (field_Next.calls A0 c0 raw kd n er _ (Kd.R_reads' HF0.out.2).2.2 (Kd.R_reads' HF0.out.2).2.1 HN.out).mono ?_; rintro e W1 ⟨rfl, hb⟩; have HP1 := Aside0.mk (HP0.out.after hb); clear hb; obtain ⟨A1, c1, HF1, g10, g11, g12, f10, f11, f12⟩ := HP1.out.facts) | ((with_reducible refine zqau (t := 3) (p := 39) rfl ?_); refine zqap (t := 3) (p := 39) (v := ?vo2) (w1 := (W1.setCell ⟨b1, 2, none⟩ (.int .i64 (0)))) ?hg ?ho ?hn ?hr ?_; (case ho => rfl); (case hg => rfl); (case hn => rfl); (case hr => first | (go_simp; done) | (go_simp; rfl)); intro W2 hw; have HP2 := Aside0.mk (by rw [hw]; exact HP1.out.set2 _ : RdSt w fr b0 b1 W2 raw _ _); clear hw; obtain ⟨A2, c2, HF2, g20, g21, g22, f20, f21, f22⟩ := HP2.out.facts) | (go_at_call 30; refine (field_Right.calls 1000 A2 c2 raw _ e2 _ (Kd.R_reads' HF2.out.2).2.2 (Kd.R_reads' HF2.out.2).2.1 HQ.out).mono ?_; rintro e W3 ⟨rfl, hb⟩; have HP3 := Aside0.mk (HP2.out.after hb); clear hb; obtain ⟨A3, c3, HF3, g30, g31, g32, f30, f31, f32⟩ := HP3.out.facts))
  go_ret
  exact ⟨rfl, HP3.out⟩
 ·
  go_enter Try.func62, Try.ntmps62
  go_wp2_with (first | (go_at_call 23; refine (field_Next.calls A0 c0 raw kd n er _ (Kd.R_reads' HF0.out.2).2.2 (Kd.R_reads' HF0.out.2).2.1 HN.out).mono ?_; rintro e W1 ⟨rfl, hb⟩; have HP1 := Aside0.mk (HP0.out.after hb); clear hb; obtain ⟨A1, c1, HF1, g10, g11, g12, f10, f11, f12⟩ := HP1.out.facts) | ((with_reducible refine zqau (t := 3) (p := 39) rfl ?_); refine zqap (t := 3) (p := 39) (v := ?vo2) (w1 := (W1.setCell ⟨b1, 2, none⟩ (.int .i64 (0)))) ?hg ?ho ?hn ?hr ?_; (case ho => rfl); (case hg => rfl); (case hn => rfl); (case hr => first | (go_simp; done) | (go_simp; rfl)); intro W2 hw; have HP2 := Aside0.mk (by rw [hw]; exact HP1.out.set2 _ : RdSt w fr b0 b1 W2 raw _ _); clear hw; obtain ⟨A2, c2, HF2, g20, g21, g22, f20, f21, f22⟩ := HP2.out.facts) | (go_at_call 30; refine (field_Right.calls 1000 A2 c2 raw _ e2 _ (Kd.R_reads' HF2.out.2).2.2 (Kd.R_reads' HF2.out.2).2.1 HQ.out).mono ?_; rintro e W3 ⟨rfl, hb⟩; have HP3 := Aside0.mk (HP2.out.after hb); clear hb; obtain ⟨A3, c3, HF3, g30, g31, g32, f30, f31, f32⟩ := HP3.out.facts))
  go_ret
  exact ⟨rfl, HP3.out⟩
set_option maxHeartbeats 4000000 in
set_option maxRecDepth 100000 in
theorem take.E2 (w W : World) (fr : Array Value) (b0 b1 : Nat) (raw : List Int) (last run level kd n er : Int) (h : RdSt w fr b0 b1 W raw last run) (hn : field_Next.f raw = some (kd, n, er)) (r5 : (run == 5) = false) (he : (er != 0) = false) (hk : (kd == 0) = true ∧ (level == 1) = false ∨ (kd == 0) = false) (k4 : decide (kd ≤ 4) = false) (k5 : (kd == 5) = true) (kg : decide (4 < kd) = true) (k6 : (kd != 6) = true) (is : Bool) (e2 : Int) (hq : field_Right.f 1000 raw = some (is, e2)) (qe : (e2 != 0) = false) (qi : is = false) :
  Calls Try.prog 62 #[.pointer (some ⟨b1, 0, none⟩), .int .i64 level] W fun e w' => e = .returned (.int .i64 18) ∧ RdSt w fr b0 b1 w' raw last 0 := by
 have HP0 := Aside0.mk h
 obtain ⟨A0, c0, HF0, g0, g1, g2, f0, f1, f2⟩ := h.facts
 clear h
 have HN := Aside0.mk hn
 clear hn
 have HQ := Aside0.mk hq
 clear hq
 subst qi
 rcases hk with ⟨hk, hv⟩ | hk
 ·
  go_enter Try.func62, Try.ntmps62
  go_wp2_with (first | (go_at_call 23; refine (field_Next.calls A0 c0 raw kd n er _ (Kd.R_reads' HF0.out.2).2.2 (Kd.R_reads' HF0.out.2).2.1 HN.out).mono ?_; rintro e W1 ⟨rfl, hb⟩; have HP1 := Aside0.mk (HP0.out.after hb); clear hb; obtain ⟨A1, c1, HF1, g10, g11, g12, f10, f11, f12⟩ := HP1.out.facts) | ((with_reducible refine zqau (t := 3) (p := 39) rfl ?_); refine zqap (t := 3) (p := 39) (v := ?vo2) (w1 := (W1.setCell ⟨b1, 2, none⟩ (.int .i64 (0)))) ?hg ?ho ?hn ?hr ?_; (case ho => rfl); (case hg => rfl); (case hn => rfl); (case hr => first | (go_simp; done) | (go_simp; rfl)); intro W2 hw; have HP2 := Aside0.mk (by rw [hw]; exact HP1.out.set2 _ : RdSt w fr b0 b1 W2 raw _ _); clear hw; obtain ⟨A2, c2, HF2, g20, g21, g22, f20, f21, f22⟩ := HP2.out.facts) | (go_at_call 30; refine (field_Right.calls 1000 A2 c2 raw _ e2 _ (Kd.R_reads' HF2.out.2).2.2 (Kd.R_reads' HF2.out.2).2.1 HQ.out).mono ?_; rintro e W3 ⟨rfl, hb⟩; have HP3 := Aside0.mk (HP2.out.after hb); clear hb; obtain ⟨A3, c3, HF3, g30, g31, g32, f30, f31, f32⟩ := HP3.out.facts))
  go_ret
  exact ⟨rfl, HP3.out⟩
 ·
  go_enter Try.func62, Try.ntmps62
  go_wp2_with (first | (go_at_call 23; refine (field_Next.calls A0 c0 raw kd n er _ (Kd.R_reads' HF0.out.2).2.2 (Kd.R_reads' HF0.out.2).2.1 HN.out).mono ?_; rintro e W1 ⟨rfl, hb⟩; have HP1 := Aside0.mk (HP0.out.after hb); clear hb; obtain ⟨A1, c1, HF1, g10, g11, g12, f10, f11, f12⟩ := HP1.out.facts) | ((with_reducible refine zqau (t := 3) (p := 39) rfl ?_); refine zqap (t := 3) (p := 39) (v := ?vo2) (w1 := (W1.setCell ⟨b1, 2, none⟩ (.int .i64 (0)))) ?hg ?ho ?hn ?hr ?_; (case ho => rfl); (case hg => rfl); (case hn => rfl); (case hr => first | (go_simp; done) | (go_simp; rfl)); intro W2 hw; have HP2 := Aside0.mk (by rw [hw]; exact HP1.out.set2 _ : RdSt w fr b0 b1 W2 raw _ _); clear hw; obtain ⟨A2, c2, HF2, g20, g21, g22, f20, f21, f22⟩ := HP2.out.facts) | (go_at_call 30; refine (field_Right.calls 1000 A2 c2 raw _ e2 _ (Kd.R_reads' HF2.out.2).2.2 (Kd.R_reads' HF2.out.2).2.1 HQ.out).mono ?_; rintro e W3 ⟨rfl, hb⟩; have HP3 := Aside0.mk (HP2.out.after hb); clear hb; obtain ⟨A3, c3, HF3, g30, g31, g32, f30, f31, f32⟩ := HP3.out.facts))
  go_ret
  exact ⟨rfl, HP3.out⟩
set_option maxHeartbeats 4000000 in
set_option maxRecDepth 100000 in
theorem take.E3 (w W : World) (fr : Array Value) (b0 b1 : Nat) (raw : List Int) (last run level kd n er : Int) (h : RdSt w fr b0 b1 W raw last run) (hn : field_Next.f raw = some (kd, n, er)) (r5 : (run == 5) = false) (he : (er != 0) = false) (hk : (kd == 0) = true ∧ (level == 1) = false ∨ (kd == 0) = false) (k4 : decide (kd ≤ 4) = false) (k5 : (kd == 5) = true) (kg : decide (4 < kd) = true) (k6 : (kd != 6) = true) (is : Bool) (e2 : Int) (hq : field_Right.f 1000 raw = some (is, e2)) (qe : (e2 != 0) = false) (qi : is = true) (qv : (level == 0) = true) :
  Calls Try.prog 62 #[.pointer (some ⟨b1, 0, none⟩), .int .i64 level] W fun e w' => e = .returned (.int .i64 11) ∧ RdSt w fr b0 b1 w' raw last 0 := by
 have HP0 := Aside0.mk h
 obtain ⟨A0, c0, HF0, g0, g1, g2, f0, f1, f2⟩ := h.facts
 clear h
 have HN := Aside0.mk hn
 clear hn
 have HQ := Aside0.mk hq
 clear hq
 subst qi
 rcases hk with ⟨hk, hv⟩ | hk
 ·
  go_enter Try.func62, Try.ntmps62
  go_wp2_with (first | (go_at_call 23; refine (field_Next.calls A0 c0 raw kd n er _ (Kd.R_reads' HF0.out.2).2.2 (Kd.R_reads' HF0.out.2).2.1 HN.out).mono ?_; rintro e W1 ⟨rfl, hb⟩; have HP1 := Aside0.mk (HP0.out.after hb); clear hb; obtain ⟨A1, c1, HF1, g10, g11, g12, f10, f11, f12⟩ := HP1.out.facts) | ((with_reducible refine zqau (t := 3) (p := 39) rfl ?_); refine zqap (t := 3) (p := 39) (v := ?vo2) (w1 := (W1.setCell ⟨b1, 2, none⟩ (.int .i64 (0)))) ?hg ?ho ?hn ?hr ?_; (case ho => rfl); (case hg => rfl); (case hn => rfl); (case hr => first | (go_simp; done) | (go_simp; rfl)); intro W2 hw; have HP2 := Aside0.mk (by rw [hw]; exact HP1.out.set2 _ : RdSt w fr b0 b1 W2 raw _ _); clear hw; obtain ⟨A2, c2, HF2, g20, g21, g22, f20, f21, f22⟩ := HP2.out.facts) | (go_at_call 30; refine (field_Right.calls 1000 A2 c2 raw _ e2 _ (Kd.R_reads' HF2.out.2).2.2 (Kd.R_reads' HF2.out.2).2.1 HQ.out).mono ?_; rintro e W3 ⟨rfl, hb⟩; have HP3 := Aside0.mk (HP2.out.after hb); clear hb; obtain ⟨A3, c3, HF3, g30, g31, g32, f30, f31, f32⟩ := HP3.out.facts))
  go_ret
  exact ⟨rfl, HP3.out⟩
 ·
  go_enter Try.func62, Try.ntmps62
  go_wp2_with (first | (go_at_call 23; refine (field_Next.calls A0 c0 raw kd n er _ (Kd.R_reads' HF0.out.2).2.2 (Kd.R_reads' HF0.out.2).2.1 HN.out).mono ?_; rintro e W1 ⟨rfl, hb⟩; have HP1 := Aside0.mk (HP0.out.after hb); clear hb; obtain ⟨A1, c1, HF1, g10, g11, g12, f10, f11, f12⟩ := HP1.out.facts) | ((with_reducible refine zqau (t := 3) (p := 39) rfl ?_); refine zqap (t := 3) (p := 39) (v := ?vo2) (w1 := (W1.setCell ⟨b1, 2, none⟩ (.int .i64 (0)))) ?hg ?ho ?hn ?hr ?_; (case ho => rfl); (case hg => rfl); (case hn => rfl); (case hr => first | (go_simp; done) | (go_simp; rfl)); intro W2 hw; have HP2 := Aside0.mk (by rw [hw]; exact HP1.out.set2 _ : RdSt w fr b0 b1 W2 raw _ _); clear hw; obtain ⟨A2, c2, HF2, g20, g21, g22, f20, f21, f22⟩ := HP2.out.facts) | (go_at_call 30; refine (field_Right.calls 1000 A2 c2 raw _ e2 _ (Kd.R_reads' HF2.out.2).2.2 (Kd.R_reads' HF2.out.2).2.1 HQ.out).mono ?_; rintro e W3 ⟨rfl, hb⟩; have HP3 := Aside0.mk (HP2.out.after hb); clear hb; obtain ⟨A3, c3, HF3, g30, g31, g32, f30, f31, f32⟩ := HP3.out.facts))
  go_ret
  exact ⟨rfl, HP3.out⟩
set_option maxHeartbeats 4000000 in
set_option maxRecDepth 100000 in
theorem take.E4 (w W : World) (fr : Array Value) (b0 b1 : Nat) (raw : List Int) (last run level kd n er : Int) (h : RdSt w fr b0 b1 W raw last run) (hn : field_Next.f raw = some (kd, n, er)) (r5 : (run == 5) = false) (he : (er != 0) = false) (hk : (kd == 0) = true ∧ (level == 1) = false ∨ (kd == 0) = false) (k4 : decide (kd ≤ 4) = false) (k5 : (kd == 5) = true) (kg : decide (4 < kd) = true) (k6 : (kd != 6) = true) (is : Bool) (e2 : Int) (hq : field_Right.f 1000 raw = some (is, e2)) (qe : (e2 != 0) = false) (qi : is = true) (qv : (level == 0) = false) (hl : raw.length ≤ 100000) :
  Calls Try.prog 62 #[.pointer (some ⟨b1, 0, none⟩), .int .i64 level] W fun e w' => e = .returned (.int .i64 0) ∧ RdSt w fr b0 b1 w' (raw ++ [level]) last 0 := by
 have HP0 := Aside0.mk h
 obtain ⟨A0, c0, HF0, g0, g1, g2, f0, f1, f2⟩ := h.facts
 clear h
 have HN := Aside0.mk hn
 clear hn
 have HQ := Aside0.mk hq
 clear hq
 subst qi
 have HL : Aside0 ((raw.length + 1) * 8 ≤ 140737488355328) := ⟨by omega⟩
 clear hl
 rcases hk with ⟨hk, hv⟩ | hk
 ·
  go_enter Try.func62, Try.ntmps62
  go_wp2_with (first | (go_at_call 23; refine (field_Next.calls A0 c0 raw kd n er _ (Kd.R_reads' HF0.out.2).2.2 (Kd.R_reads' HF0.out.2).2.1 HN.out).mono ?_; rintro e W1 ⟨rfl, hb⟩; have HP1 := Aside0.mk (HP0.out.after hb); clear hb; obtain ⟨A1, c1, HF1, g10, g11, g12, f10, f11, f12⟩ := HP1.out.facts) | ((with_reducible refine zqau (t := 3) (p := 39) rfl ?_); refine zqap (t := 3) (p := 39) (v := ?vo2) (w1 := (W1.setCell ⟨b1, 2, none⟩ (.int .i64 (0)))) ?hg ?ho ?hn ?hr ?_; (case ho => rfl); (case hg => rfl); (case hn => rfl); (case hr => first | (go_simp; done) | (go_simp; rfl)); intro W2 hw; have HP2 := Aside0.mk (by rw [hw]; exact HP1.out.set2 _ : RdSt w fr b0 b1 W2 raw _ _); clear hw; obtain ⟨A2, c2, HF2, g20, g21, g22, f20, f21, f22⟩ := HP2.out.facts) | (go_at_call 30; refine (field_Right.calls 1000 A2 c2 raw _ e2 _ (Kd.R_reads' HF2.out.2).2.2 (Kd.R_reads' HF2.out.2).2.1 HQ.out).mono ?_; rintro e W3 ⟨rfl, hb⟩; have HP3 := Aside0.mk (HP2.out.after hb); clear hb; obtain ⟨A3, c3, HF3, g30, g31, g32, f30, f31, f32⟩ := HP3.out.facts) | ((with_reducible refine zqao (b := .append) (xs := #[.tmp 111, .tmp 113]) rfl ?_); at_builtin; refine Kd.R_append (Kd.int .i64) (w0 := w) w.heap.size rfl (.tmp 111) (.tmp 113) 25 3 (.int .i64 0) 8 rfl Try.underlying25 info3 rfl (by decide) (by omega) (.slice A3 raw.length c3) raw level [.int .i64 level] (fun k => k ≠ b0 ∧ k ≠ b1) (fun _ => False) rfl ?aX ?aP (fun _ hk => hk.elim) ?aF ?aO ?aB ?aS ?aL ?_; (case aX => rfl); (case aP => exact rfl); (case aF => intro k hk; have := HP3.out.size; omega); (case aO => exact HF3.out.2); (case aB => exact HP3.out.bel); (case aS => exact HP3.out.bel.size); (case aL => exact HL.out); intro v1 X1 ho hb hg hat; obtain ⟨Ax, cx, ex⟩ := Kd.R_slice ho; subst ex; have HX := Aside0.mk (HP3.out.next HF3.out.1 HF3.out.2 ho hb hg); have cX : X1.cell? ⟨b1, 0, none⟩ = some (.slice A3 raw.length c3) := (zqab HX.out.1 0).trans rfl; have fX := zqaa HX.out.1 0; clear ho hb hg hat))
  go_ret
  exact ⟨rfl, by have h_ := HX.out.2; simp only [List.length_append, List.length_singleton] at h_; exact h_⟩
 ·
  go_enter Try.func62, Try.ntmps62
  go_wp2_with (first | (go_at_call 23; refine (field_Next.calls A0 c0 raw kd n er _ (Kd.R_reads' HF0.out.2).2.2 (Kd.R_reads' HF0.out.2).2.1 HN.out).mono ?_; rintro e W1 ⟨rfl, hb⟩; have HP1 := Aside0.mk (HP0.out.after hb); clear hb; obtain ⟨A1, c1, HF1, g10, g11, g12, f10, f11, f12⟩ := HP1.out.facts) | ((with_reducible refine zqau (t := 3) (p := 39) rfl ?_); refine zqap (t := 3) (p := 39) (v := ?vo2) (w1 := (W1.setCell ⟨b1, 2, none⟩ (.int .i64 (0)))) ?hg ?ho ?hn ?hr ?_; (case ho => rfl); (case hg => rfl); (case hn => rfl); (case hr => first | (go_simp; done) | (go_simp; rfl)); intro W2 hw; have HP2 := Aside0.mk (by rw [hw]; exact HP1.out.set2 _ : RdSt w fr b0 b1 W2 raw _ _); clear hw; obtain ⟨A2, c2, HF2, g20, g21, g22, f20, f21, f22⟩ := HP2.out.facts) | (go_at_call 30; refine (field_Right.calls 1000 A2 c2 raw _ e2 _ (Kd.R_reads' HF2.out.2).2.2 (Kd.R_reads' HF2.out.2).2.1 HQ.out).mono ?_; rintro e W3 ⟨rfl, hb⟩; have HP3 := Aside0.mk (HP2.out.after hb); clear hb; obtain ⟨A3, c3, HF3, g30, g31, g32, f30, f31, f32⟩ := HP3.out.facts) | ((with_reducible refine zqao (b := .append) (xs := #[.tmp 111, .tmp 113]) rfl ?_); at_builtin; refine Kd.R_append (Kd.int .i64) (w0 := w) w.heap.size rfl (.tmp 111) (.tmp 113) 25 3 (.int .i64 0) 8 rfl Try.underlying25 info3 rfl (by decide) (by omega) (.slice A3 raw.length c3) raw level [.int .i64 level] (fun k => k ≠ b0 ∧ k ≠ b1) (fun _ => False) rfl ?aX ?aP (fun _ hk => hk.elim) ?aF ?aO ?aB ?aS ?aL ?_; (case aX => rfl); (case aP => exact rfl); (case aF => intro k hk; have := HP3.out.size; omega); (case aO => exact HF3.out.2); (case aB => exact HP3.out.bel); (case aS => exact HP3.out.bel.size); (case aL => exact HL.out); intro v1 X1 ho hb hg hat; obtain ⟨Ax, cx, ex⟩ := Kd.R_slice ho; subst ex; have HX := Aside0.mk (HP3.out.next HF3.out.1 HF3.out.2 ho hb hg); have cX : X1.cell? ⟨b1, 0, none⟩ = some (.slice A3 raw.length c3) := (zqab HX.out.1 0).trans rfl; have fX := zqaa HX.out.1 0; clear ho hb hg hat))
  go_ret
  exact ⟨rfl, by have h_ := HX.out.2; simp only [List.length_append, List.length_singleton] at h_; exact h_⟩
set_option maxHeartbeats 4000000 in
set_option maxRecDepth 100000 in
theorem take.F1 (w W : World) (fr : Array Value) (b0 b1 : Nat) (raw : List Int) (last run level kd n er : Int) (h : RdSt w fr b0 b1 W raw last run) (hn : field_Next.f raw = some (kd, n, er)) (r5 : (run == 5) = false) (he : (er != 0) = false) (hk : (kd == 0) = true ∧ (level == 1) = false ∨ (kd == 0) = false) (k4 : decide (kd ≤ 4) = false) (k5 : (kd == 5) = false) (kg : decide (4 < kd) = true) (k6 : (kd != 6) = true) (qv : (level == 0) = true) :
  Calls Try.prog 62 #[.pointer (some ⟨b1, 0, none⟩), .int .i64 level] W fun e w' => e = .returned (.int .i64 11) ∧ RdSt w fr b0 b1 w' raw last 0 := by
 have HP0 := Aside0.mk h
 obtain ⟨A0, c0, HF0, g0, g1, g2, f0, f1, f2⟩ := h.facts
 clear h
 have HN := Aside0.mk hn
 clear hn
 rcases hk with ⟨hk, hv⟩ | hk
 ·
  go_enter Try.func62, Try.ntmps62
  go_wp2_with (first | (go_at_call 23; refine (field_Next.calls A0 c0 raw kd n er _ (Kd.R_reads' HF0.out.2).2.2 (Kd.R_reads' HF0.out.2).2.1 HN.out).mono ?_; rintro e W1 ⟨rfl, hb⟩; have HP1 := Aside0.mk (HP0.out.after hb); clear hb; obtain ⟨A1, c1, HF1, g10, g11, g12, f10, f11, f12⟩ := HP1.out.facts) | ((with_reducible refine zqau (t := 3) (p := 39) rfl ?_); refine zqap (t := 3) (p := 39) (v := ?vo2) (w1 := (W1.setCell ⟨b1, 2, none⟩ (.int .i64 (0)))) ?hg ?ho ?hn ?hr ?_; (case ho => rfl); (case hg => rfl); (case hn => rfl); (case hr => first | (go_simp; done) | (go_simp; rfl)); intro W2 hw; have HP2 := Aside0.mk (by rw [hw]; exact HP1.out.set2 _ : RdSt w fr b0 b1 W2 raw _ _); clear hw; obtain ⟨A2, c2, HF2, g20, g21, g22, f20, f21, f22⟩ := HP2.out.facts))
  go_ret
  exact ⟨rfl, HP2.out⟩
 ·
  go_enter Try.func62, Try.ntmps62
  go_wp2_with (first | (go_at_call 23; refine (field_Next.calls A0 c0 raw kd n er _ (Kd.R_reads' HF0.out.2).2.2 (Kd.R_reads' HF0.out.2).2.1 HN.out).mono ?_; rintro e W1 ⟨rfl, hb⟩; have HP1 := Aside0.mk (HP0.out.after hb); clear hb; obtain ⟨A1, c1, HF1, g10, g11, g12, f10, f11, f12⟩ := HP1.out.facts) | ((with_reducible refine zqau (t := 3) (p := 39) rfl ?_); refine zqap (t := 3) (p := 39) (v := ?vo2) (w1 := (W1.setCell ⟨b1, 2, none⟩ (.int .i64 (0)))) ?hg ?ho ?hn ?hr ?_; (case ho => rfl); (case hg => rfl); (case hn => rfl); (case hr => first | (go_simp; done) | (go_simp; rfl)); intro W2 hw; have HP2 := Aside0.mk (by rw [hw]; exact HP1.out.set2 _ : RdSt w fr b0 b1 W2 raw _ _); clear hw; obtain ⟨A2, c2, HF2, g20, g21, g22, f20, f21, f22⟩ := HP2.out.facts))
  go_ret
  exact ⟨rfl, HP2.out⟩
set_option maxHeartbeats 4000000 in
set_option maxRecDepth 100000 in
theorem take.F2 (w W : World) (fr : Array Value) (b0 b1 : Nat) (raw : List Int) (last run level kd n er : Int) (h : RdSt w fr b0 b1 W raw last run) (hn : field_Next.f raw = some (kd, n, er)) (r5 : (run == 5) = false) (he : (er != 0) = false) (hk : (kd == 0) = true ∧ (level == 1) = false ∨ (kd == 0) = false) (k4 : decide (kd ≤ 4) = false) (k5 : (kd == 5) = false) (kg : decide (4 < kd) = true) (k6 : (kd != 6) = true) (qv : (level == 0) = false) (hl : raw.length ≤ 100000) :
  Calls Try.prog 62 #[.pointer (some ⟨b1, 0, none⟩), .int .i64 level] W fun e w' => e = .returned (.int .i64 0) ∧ RdSt w fr b0 b1 w' (raw ++ [level]) last 0 := by
 have HP0 := Aside0.mk h
 obtain ⟨A0, c0, HF0, g0, g1, g2, f0, f1, f2⟩ := h.facts
 clear h
 have HN := Aside0.mk hn
 clear hn
 have HL : Aside0 ((raw.length + 1) * 8 ≤ 140737488355328) := ⟨by omega⟩
 clear hl
 rcases hk with ⟨hk, hv⟩ | hk
 ·
  go_enter Try.func62, Try.ntmps62
  go_wp2_with (first | (go_at_call 23; refine (field_Next.calls A0 c0 raw kd n er _ (Kd.R_reads' HF0.out.2).2.2 (Kd.R_reads' HF0.out.2).2.1 HN.out).mono ?_; rintro e W1 ⟨rfl, hb⟩; have HP1 := Aside0.mk (HP0.out.after hb); clear hb; obtain ⟨A1, c1, HF1, g10, g11, g12, f10, f11, f12⟩ := HP1.out.facts) | ((with_reducible refine zqau (t := 3) (p := 39) rfl ?_); refine zqap (t := 3) (p := 39) (v := ?vo2) (w1 := (W1.setCell ⟨b1, 2, none⟩ (.int .i64 (0)))) ?hg ?ho ?hn ?hr ?_; (case ho => rfl); (case hg => rfl); (case hn => rfl); (case hr => first | (go_simp; done) | (go_simp; rfl)); intro W2 hw; have HP2 := Aside0.mk (by rw [hw]; exact HP1.out.set2 _ : RdSt w fr b0 b1 W2 raw _ _); clear hw; obtain ⟨A2, c2, HF2, g20, g21, g22, f20, f21, f22⟩ := HP2.out.facts) | ((with_reducible refine zqao (b := .append) (xs := #[.tmp 111, .tmp 113]) rfl ?_); at_builtin; refine Kd.R_append (Kd.int .i64) (w0 := w) w.heap.size rfl (.tmp 111) (.tmp 113) 25 3 (.int .i64 0) 8 rfl Try.underlying25 info3 rfl (by decide) (by omega) (.slice A2 raw.length c2) raw level [.int .i64 level] (fun k => k ≠ b0 ∧ k ≠ b1) (fun _ => False) rfl ?aX ?aP (fun _ hk => hk.elim) ?aF ?aO ?aB ?aS ?aL ?_; (case aX => rfl); (case aP => exact rfl); (case aF => intro k hk; have := HP2.out.size; omega); (case aO => exact HF2.out.2); (case aB => exact HP2.out.bel); (case aS => exact HP2.out.bel.size); (case aL => exact HL.out); intro v1 X1 ho hb hg hat; obtain ⟨Ax, cx, ex⟩ := Kd.R_slice ho; subst ex; have HX := Aside0.mk (HP2.out.next HF2.out.1 HF2.out.2 ho hb hg); have cX : X1.cell? ⟨b1, 0, none⟩ = some (.slice A2 raw.length c2) := (zqab HX.out.1 0).trans rfl; have fX := zqaa HX.out.1 0; clear ho hb hg hat))
  go_ret
  exact ⟨rfl, by have h_ := HX.out.2; simp only [List.length_append, List.length_singleton] at h_; exact h_⟩
 ·
  go_enter Try.func62, Try.ntmps62
  go_wp2_with (first | (go_at_call 23; refine (field_Next.calls A0 c0 raw kd n er _ (Kd.R_reads' HF0.out.2).2.2 (Kd.R_reads' HF0.out.2).2.1 HN.out).mono ?_; rintro e W1 ⟨rfl, hb⟩; have HP1 := Aside0.mk (HP0.out.after hb); clear hb; obtain ⟨A1, c1, HF1, g10, g11, g12, f10, f11, f12⟩ := HP1.out.facts) | ((with_reducible refine zqau (t := 3) (p := 39) rfl ?_); refine zqap (t := 3) (p := 39) (v := ?vo2) (w1 := (W1.setCell ⟨b1, 2, none⟩ (.int .i64 (0)))) ?hg ?ho ?hn ?hr ?_; (case ho => rfl); (case hg => rfl); (case hn => rfl); (case hr => first | (go_simp; done) | (go_simp; rfl)); intro W2 hw; have HP2 := Aside0.mk (by rw [hw]; exact HP1.out.set2 _ : RdSt w fr b0 b1 W2 raw _ _); clear hw; obtain ⟨A2, c2, HF2, g20, g21, g22, f20, f21, f22⟩ := HP2.out.facts) | ((with_reducible refine zqao (b := .append) (xs := #[.tmp 111, .tmp 113]) rfl ?_); at_builtin; refine Kd.R_append (Kd.int .i64) (w0 := w) w.heap.size rfl (.tmp 111) (.tmp 113) 25 3 (.int .i64 0) 8 rfl Try.underlying25 info3 rfl (by decide) (by omega) (.slice A2 raw.length c2) raw level [.int .i64 level] (fun k => k ≠ b0 ∧ k ≠ b1) (fun _ => False) rfl ?aX ?aP (fun _ hk => hk.elim) ?aF ?aO ?aB ?aS ?aL ?_; (case aX => rfl); (case aP => exact rfl); (case aF => intro k hk; have := HP2.out.size; omega); (case aO => exact HF2.out.2); (case aB => exact HP2.out.bel); (case aS => exact HP2.out.bel.size); (case aL => exact HL.out); intro v1 X1 ho hb hg hat; obtain ⟨Ax, cx, ex⟩ := Kd.R_slice ho; subst ex; have HX := Aside0.mk (HP2.out.next HF2.out.1 HF2.out.2 ho hb hg); have cX : X1.cell? ⟨b1, 0, none⟩ = some (.slice A2 raw.length c2) := (zqab HX.out.1 0).trans rfl; have fX := zqaa HX.out.1 0; clear ho hb hg hat))
  go_ret
  exact ⟨rfl, by have h_ := HX.out.2; simp only [List.length_append, List.length_singleton] at h_; exact h_⟩
set_option maxHeartbeats 4000000 in
set_option maxRecDepth 100000 in
theorem take.F3 (w W : World) (fr : Array Value) (b0 b1 : Nat) (raw : List Int) (last run level kd n er : Int) (h : RdSt w fr b0 b1 W raw last run) (hn : field_Next.f raw = some (kd, n, er)) (r5 : (run == 5) = false) (he : (er != 0) = false) (hk : (kd == 0) = true ∧ (level == 1) = false ∨ (kd == 0) = false) (k4 : decide (kd ≤ 4) = false) (k5 : (kd == 5) = false) (kg : decide (4 < kd) = true) (k6 : (kd != 6) = false) (hl : raw.length ≤ 100000) :
  Calls Try.prog 62 #[.pointer (some ⟨b1, 0, none⟩), .int .i64 level] W fun e w' => e = .returned (.int .i64 0) ∧ RdSt w fr b0 b1 w' (raw ++ [level]) last 0 := by
 have HP0 := Aside0.mk h
 obtain ⟨A0, c0, HF0, g0, g1, g2, f0, f1, f2⟩ := h.facts
 clear h
 have HN := Aside0.mk hn
 clear hn
 have HL : Aside0 ((raw.length + 1) * 8 ≤ 140737488355328) := ⟨by omega⟩
 clear hl
 rcases hk with ⟨hk, hv⟩ | hk
 ·
  go_enter Try.func62, Try.ntmps62
  go_wp2_with (first | (go_at_call 23; refine (field_Next.calls A0 c0 raw kd n er _ (Kd.R_reads' HF0.out.2).2.2 (Kd.R_reads' HF0.out.2).2.1 HN.out).mono ?_; rintro e W1 ⟨rfl, hb⟩; have HP1 := Aside0.mk (HP0.out.after hb); clear hb; obtain ⟨A1, c1, HF1, g10, g11, g12, f10, f11, f12⟩ := HP1.out.facts) | ((with_reducible refine zqau (t := 3) (p := 39) rfl ?_); refine zqap (t := 3) (p := 39) (v := ?vo2) (w1 := (W1.setCell ⟨b1, 2, none⟩ (.int .i64 (0)))) ?hg ?ho ?hn ?hr ?_; (case ho => rfl); (case hg => rfl); (case hn => rfl); (case hr => first | (go_simp; done) | (go_simp; rfl)); intro W2 hw; have HP2 := Aside0.mk (by rw [hw]; exact HP1.out.set2 _ : RdSt w fr b0 b1 W2 raw _ _); clear hw; obtain ⟨A2, c2, HF2, g20, g21, g22, f20, f21, f22⟩ := HP2.out.facts) | ((with_reducible refine zqao (b := .append) (xs := #[.tmp 111, .tmp 113]) rfl ?_); at_builtin; refine Kd.R_append (Kd.int .i64) (w0 := w) w.heap.size rfl (.tmp 111) (.tmp 113) 25 3 (.int .i64 0) 8 rfl Try.underlying25 info3 rfl (by decide) (by omega) (.slice A2 raw.length c2) raw level [.int .i64 level] (fun k => k ≠ b0 ∧ k ≠ b1) (fun _ => False) rfl ?aX ?aP (fun _ hk => hk.elim) ?aF ?aO ?aB ?aS ?aL ?_; (case aX => rfl); (case aP => exact rfl); (case aF => intro k hk; have := HP2.out.size; omega); (case aO => exact HF2.out.2); (case aB => exact HP2.out.bel); (case aS => exact HP2.out.bel.size); (case aL => exact HL.out); intro v1 X1 ho hb hg hat; obtain ⟨Ax, cx, ex⟩ := Kd.R_slice ho; subst ex; have HX := Aside0.mk (HP2.out.next HF2.out.1 HF2.out.2 ho hb hg); have cX : X1.cell? ⟨b1, 0, none⟩ = some (.slice A2 raw.length c2) := (zqab HX.out.1 0).trans rfl; have fX := zqaa HX.out.1 0; clear ho hb hg hat))
  go_ret
  exact ⟨rfl, by have h_ := HX.out.2; simp only [List.length_append, List.length_singleton] at h_; exact h_⟩
 ·
  go_enter Try.func62, Try.ntmps62
  go_wp2_with (first | (go_at_call 23; refine (field_Next.calls A0 c0 raw kd n er _ (Kd.R_reads' HF0.out.2).2.2 (Kd.R_reads' HF0.out.2).2.1 HN.out).mono ?_; rintro e W1 ⟨rfl, hb⟩; have HP1 := Aside0.mk (HP0.out.after hb); clear hb; obtain ⟨A1, c1, HF1, g10, g11, g12, f10, f11, f12⟩ := HP1.out.facts) | ((with_reducible refine zqau (t := 3) (p := 39) rfl ?_); refine zqap (t := 3) (p := 39) (v := ?vo2) (w1 := (W1.setCell ⟨b1, 2, none⟩ (.int .i64 (0)))) ?hg ?ho ?hn ?hr ?_; (case ho => rfl); (case hg => rfl); (case hn => rfl); (case hr => first | (go_simp; done) | (go_simp; rfl)); intro W2 hw; have HP2 := Aside0.mk (by rw [hw]; exact HP1.out.set2 _ : RdSt w fr b0 b1 W2 raw _ _); clear hw; obtain ⟨A2, c2, HF2, g20, g21, g22, f20, f21, f22⟩ := HP2.out.facts) | ((with_reducible refine zqao (b := .append) (xs := #[.tmp 111, .tmp 113]) rfl ?_); at_builtin; refine Kd.R_append (Kd.int .i64) (w0 := w) w.heap.size rfl (.tmp 111) (.tmp 113) 25 3 (.int .i64 0) 8 rfl Try.underlying25 info3 rfl (by decide) (by omega) (.slice A2 raw.length c2) raw level [.int .i64 level] (fun k => k ≠ b0 ∧ k ≠ b1) (fun _ => False) rfl ?aX ?aP (fun _ hk => hk.elim) ?aF ?aO ?aB ?aS ?aL ?_; (case aX => rfl); (case aP => exact rfl); (case aF => intro k hk; have := HP2.out.size; omega); (case aO => exact HF2.out.2); (case aB => exact HP2.out.bel); (case aS => exact HP2.out.bel.size); (case aL => exact HL.out); intro v1 X1 ho hb hg hat; obtain ⟨Ax, cx, ex⟩ := Kd.R_slice ho; subst ex; have HX := Aside0.mk (HP2.out.next HF2.out.1 HF2.out.2 ho hb hg); have cX : X1.cell? ⟨b1, 0, none⟩ = some (.slice A2 raw.length c2) := (zqab HX.out.1 0).trans rfl; have fX := zqaa HX.out.1 0; clear ho hb hg hat))
  go_ret
  exact ⟨rfl, by have h_ := HX.out.2; simp only [List.length_append, List.length_singleton] at h_; exact h_⟩
theorem take.calls (w W : World) (fr : Array Value) (b0 b1 : Nat) (raw : List Int) (last run level r last' run' : Int) (raw' : List Int) (h : RdSt w fr b0 b1 W raw last run) (ht : takeF raw last run level = some (r, raw', last', run')) :
  Calls Try.prog 62 #[.pointer (some ⟨b1, 0, none⟩), .int .i64 level] W fun e w' => e = .returned (.int .i64 r) ∧ RdSt w fr b0 b1 w' raw' last' run' := by
 unfold takeF at ht
 by_cases c5 : run = 5
 ·
  subst c5
  rw [if_pos rfl] at ht
  exact take.A w W fr b0 b1 raw last level r last' run' raw' h ht
 rw [if_neg c5] at ht
 have r5 : (run == 5) = false := beq_eq_false_iff_ne.mpr c5
 cases hn : field_Next.f raw with
 | none => rw [hn] at ht; exact absurd ht (by simp)
 | some q =>
  obtain ⟨kd, n, er⟩ := q
  rw [hn] at ht
  simp only [Option.bind_some] at ht
  by_cases e0 : er ≠ 0
  ·
   rw [if_pos e0] at ht
   simp only [Option.some.injEq, Prod.mk.injEq] at ht
   obtain ⟨rfl, rfl, rfl, rfl⟩ := ht
   exact take.B0 w W fr b0 b1 raw last run level kd n er h hn r5 (bne_iff_ne.mpr e0)
  rw [if_neg e0] at ht
  have he : (er != 0) = false := by simpa using e0
  by_cases c1 : kd = 0 ∧ level = 1
  ·
   rw [if_pos c1] at ht
   simp only [Option.some.injEq, Prod.mk.injEq] at ht
   obtain ⟨rfl, rfl, rfl, rfl⟩ := ht
   exact take.B1 w W fr b0 b1 raw last run level kd n er h hn r5 he (beq_iff_eq.mpr c1.1) (beq_iff_eq.mpr c1.2)
  rw [if_neg c1] at ht
  have hk : (kd == 0) = true ∧ (level == 1) = false ∨ (kd == 0) = false := by
   by_cases z : kd = 0
   ·
    exact .inl ⟨beq_iff_eq.mpr z, beq_eq_false_iff_ne.mpr (fun e => c1 ⟨z, e⟩)⟩
   ·
    exact .inr (beq_eq_false_iff_ne.mpr z)
  by_cases k5 : kd = 5
  ·
   rw [if_pos k5] at ht
   have q4 : decide (kd ≤ 4) = false := decide_eq_false (by omega)
   have q5 : (kd == 5) = true := beq_iff_eq.mpr k5
   have qg : decide (4 < kd) = true := decide_eq_true (by omega)
   have q6 : (kd != 6) = true := bne_iff_ne.mpr (by omega)
   cases hq : field_Right.f 1000 raw with
   | none => rw [hq] at ht; exact absurd ht (by simp)
   | some z =>
    obtain ⟨is, e2⟩ := z
    rw [hq] at ht
    simp only [Option.bind_some] at ht
    by_cases x1 : e2 ≠ 0
    ·
     rw [if_pos (.inl x1)] at ht
     simp only [Option.some.injEq, Prod.mk.injEq] at ht
     obtain ⟨rfl, rfl, rfl, rfl⟩ := ht
     exact take.E1 w W fr b0 b1 raw last run level kd n er h hn r5 he hk q4 q5 qg q6 is e2 hq (bne_iff_ne.mpr x1)
    have x1' : (e2 != 0) = false := by simpa using x1
    by_cases x2 : is = false
    ·
     rw [if_pos (.inr x2)] at ht
     simp only [Option.some.injEq, Prod.mk.injEq] at ht
     obtain ⟨rfl, rfl, rfl, rfl⟩ := ht
     exact take.E2 w W fr b0 b1 raw last run level kd n er h hn r5 he hk q4 q5 qg q6 is e2 hq x1' x2
    rw [if_neg (not_or.mpr ⟨x1, x2⟩)] at ht
    have x2' : is = true := by simpa using x2
    unfold takeEnd at ht
    by_cases x3 : level = 0
    ·
     rw [if_pos ⟨by omega, by omega, x3⟩] at ht
     simp only [Option.some.injEq, Prod.mk.injEq] at ht
     obtain ⟨rfl, rfl, rfl, rfl⟩ := ht
     exact take.E3 w W fr b0 b1 raw last run level kd n er h hn r5 he hk q4 q5 qg q6 is e2 hq x1' x2' (beq_iff_eq.mpr x3)
    ·
     rw [if_neg (fun e => x3 e.2.2)] at ht
     by_cases x4 : raw.length ≤ 100000
     ·
      rw [if_pos x4] at ht
      simp only [Option.some.injEq, Prod.mk.injEq] at ht
      obtain ⟨rfl, rfl, rfl, rfl⟩ := ht
      exact take.E4 w W fr b0 b1 raw last run level kd n er h hn r5 he hk q4 q5 qg q6 is e2 hq x1' x2' (beq_eq_false_iff_ne.mpr x3) x4
     ·
      rw [if_neg x4] at ht
      exact absurd ht (by simp)
  rw [if_neg k5] at ht
  have q5 : (kd == 5) = false := beq_eq_false_iff_ne.mpr k5
  unfold takeEnd at ht
  by_cases k4 : kd ≤ 4
  ·
   have q4 : decide (kd ≤ 4) = true := decide_eq_true k4
   have qg : decide (4 < kd) = false := decide_eq_false (by omega)
   rw [if_neg (fun e => by omega), if_pos k4] at ht
   by_cases x4 : raw.length ≤ 100000
   ·
    rw [if_pos x4] at ht
    unfold takeRun at ht
    rw [if_pos k4] at ht
    by_cases x1 : 0 < run
    ·
     by_cases x2 : level = last
     ·
      rw [if_pos ⟨x1, x2⟩] at ht
      simp only [Option.some.injEq, Prod.mk.injEq] at ht
      obtain ⟨rfl, rfl, rfl, rfl⟩ := ht
      exact take.D1 w W fr b0 b1 raw last run level kd n er h hn r5 he hk q4 q5 qg (decide_eq_true x1) (beq_iff_eq.mpr x2) x4
     ·
      rw [if_neg (fun e => x2 e.2)] at ht
      simp only [Option.some.injEq, Prod.mk.injEq] at ht
      obtain ⟨rfl, rfl, rfl, rfl⟩ := ht
      exact take.D2 w W fr b0 b1 raw last run level kd n er h hn r5 he hk q4 q5 qg (decide_eq_true x1) (beq_eq_false_iff_ne.mpr x2) x4
    ·
     rw [if_neg (fun e => x1 e.1)] at ht
     simp only [Option.some.injEq, Prod.mk.injEq] at ht
     obtain ⟨rfl, rfl, rfl, rfl⟩ := ht
     exact take.D3 w W fr b0 b1 raw last run level kd n er h hn r5 he hk q4 q5 qg (decide_eq_false x1) x4
   ·
    rw [if_neg x4] at ht
    exact absurd ht (by simp)
  ·
   have q4 : decide (kd ≤ 4) = false := decide_eq_false k4
   have qg : decide (4 < kd) = true := decide_eq_true (by omega)
   rw [if_neg k4] at ht
   unfold takeRun at ht
   rw [if_neg k4] at ht
   by_cases k6 : kd = 6
   ·
    rw [if_neg (fun e => e.2.1 k6)] at ht
    by_cases x4 : raw.length ≤ 100000
    ·
     rw [if_pos x4] at ht
     simp only [Option.some.injEq, Prod.mk.injEq] at ht
     obtain ⟨rfl, rfl, rfl, rfl⟩ := ht
     exact take.F3 w W fr b0 b1 raw last run level kd n er h hn r5 he hk q4 q5 qg (by simpa using k6) x4
    ·
     rw [if_neg x4] at ht
     exact absurd ht (by simp)
   ·
    by_cases x3 : level = 0
    ·
     rw [if_pos ⟨by omega, k6, x3⟩] at ht
     simp only [Option.some.injEq, Prod.mk.injEq] at ht
     obtain ⟨rfl, rfl, rfl, rfl⟩ := ht
     exact take.F1 w W fr b0 b1 raw last run level kd n er h hn r5 he hk q4 q5 qg (bne_iff_ne.mpr k6) (beq_iff_eq.mpr x3)
    ·
     rw [if_neg (fun e => x3 e.2.2)] at ht
     by_cases x4 : raw.length ≤ 100000
     ·
      rw [if_pos x4] at ht
      simp only [Option.some.injEq, Prod.mk.injEq] at ht
      obtain ⟨rfl, rfl, rfl, rfl⟩ := ht
      exact take.F2 w W fr b0 b1 raw last run level kd n er h hn r5 he hk q4 q5 qg (bne_iff_ne.mpr k6) (beq_eq_false_iff_ne.mpr x3) x4
     ·
      rw [if_neg x4] at ht
      exact absurd ht (by simp)
set_option maxHeartbeats 4000000 in
set_option maxRecDepth 100000 in
theorem done.calls (w W : World) (fr : Array Value) (b0 b1 : Nat) (raw : List Int) (last run kd n er : Int) (h : RdSt w fr b0 b1 W raw last run) (hn : field_Next.f raw = some (kd, n, er)) :
  Calls Try.prog 63 #[.pointer (some ⟨b1, 0, none⟩)] W fun e w' => e = .returned (.bool (decide (er = 0 ∧ kd = 9))) ∧ RdSt w fr b0 b1 w' raw last run := by
 have HP0 := Aside0.mk h
 obtain ⟨A0, c0, HF0, g0, g1, g2, f0, f1, f2⟩ := h.facts
 clear h
 have HN := Aside0.mk hn
 clear hn
 by_cases e0 : er = 0
 ·
  have he : (er == 0) = true := beq_iff_eq.mpr e0
  by_cases k9 : kd = 9
  ·
   have hk : (kd == 9) = true := beq_iff_eq.mpr k9
   rw [decide_eq_true ⟨e0, k9⟩]
   clear e0 k9
   go_enter Try.func63, Try.ntmps63
   go_wp2_with (go_at_call 23; refine (field_Next.calls A0 c0 raw kd n er _ (Kd.R_reads' HF0.out.2).2.2 (Kd.R_reads' HF0.out.2).2.1 HN.out).mono ?_; rintro e W1 ⟨rfl, hb⟩; have HP1 := Aside0.mk (HP0.out.after hb); clear hb; obtain ⟨A1, c1, HF1, g10, g11, g12, f10, f11, f12⟩ := HP1.out.facts)
   go_ret
   exact ⟨rfl, HP1.out⟩
  ·
   have hk : (kd == 9) = false := beq_eq_false_iff_ne.mpr k9
   rw [decide_eq_false (fun e => k9 e.2)]
   clear e0 k9
   go_enter Try.func63, Try.ntmps63
   go_wp2_with (go_at_call 23; refine (field_Next.calls A0 c0 raw kd n er _ (Kd.R_reads' HF0.out.2).2.2 (Kd.R_reads' HF0.out.2).2.1 HN.out).mono ?_; rintro e W1 ⟨rfl, hb⟩; have HP1 := Aside0.mk (HP0.out.after hb); clear hb; obtain ⟨A1, c1, HF1, g10, g11, g12, f10, f11, f12⟩ := HP1.out.facts)
   go_ret
   exact ⟨rfl, HP1.out⟩
 ·
  have he : (er == 0) = false := beq_eq_false_iff_ne.mpr e0
  rw [decide_eq_false (fun e => e0 e.1)]
  clear e0
  go_enter Try.func63, Try.ntmps63
  go_wp2_with (go_at_call 23; refine (field_Next.calls A0 c0 raw kd n er _ (Kd.R_reads' HF0.out.2).2.2 (Kd.R_reads' HF0.out.2).2.1 HN.out).mono ?_; rintro e W1 ⟨rfl, hb⟩; have HP1 := Aside0.mk (HP0.out.after hb); clear hb; obtain ⟨A1, c1, HF1, g10, g11, g12, f10, f11, f12⟩ := HP1.out.facts)
  go_ret
  exact ⟨rfl, HP1.out⟩
/-- Levels are taken one by one: the answer, or none yet. -/
def decL : List Int → Int → List Int → Int → Int → Option (Option (Int × Bool × Bool × Int × Int × Int × Int × Int × Int × Int × Int × Int × Int × Int))
 | [], _, _, _, _ => some none
 | x :: t, i, raw, last, run => (takeF raw last run x).bind fun u =>
  if u.1 ≠ 0 then some (some (0, false, false, 0, 0, 0, 0, 0, 0, 0, 0, 0, i, u.1))
  else (field_Next.f u.2.1).bind fun n =>
   if n.2.2 = 0 ∧ n.1 = 9 then (field_Frame.f 1000 u.2.1).bind fun q => if q.2.2.2.2.2.2.2.2.2.2.2.2 ≠ 0 then some (some (0, false, false, 0, 0, 0, 0, 0, 0, 0, 0, 0, 0, q.2.2.2.2.2.2.2.2.2.2.2.2)) else some (some (q.1, q.2.1, q.2.2.1, q.2.2.2.1, q.2.2.2.2.1, q.2.2.2.2.2.1, q.2.2.2.2.2.2.1, q.2.2.2.2.2.2.2.1, q.2.2.2.2.2.2.2.2.1, q.2.2.2.2.2.2.2.2.2.1, q.2.2.2.2.2.2.2.2.2.2.1, q.2.2.2.2.2.2.2.2.2.2.2.1, i + 1, 0))
   else decL t (i + 1) u.2.1 u.2.2.1 u.2.2.2
/-- Where the levels end, or are none. -/
def decStop (l0 : List Int) : Nat := if chk l0 0 ≥ 0 then (chk l0 0).toNat else l0.length
def codec_Decode.f (l0 : List Int) : Option (Int × Bool × Bool × Int × Int × Int × Int × Int × Int × Int × Int × Int × Int × Int) :=
 if l0.length ≤ 1000000 ∧ decStop l0 ≤ l0.length then (decL (l0.take (decStop l0)) 0 [] 0 0).bind fun o => some (o.getD (if decStop l0 < l0.length then (0, false, false, 0, 0, 0, 0, 0, 0, 0, 0, 0, (decStop l0 : Int), 10) else (0, false, false, 0, 0, 0, 0, 0, 0, 0, 0, 0, (decStop l0 : Int), 13)))
 else none
theorem RdSt.start {w wA wB : World} {fr : Array Value} {b0 b1 : Nat} (hb0 : b0 = w.heap.size) (hA : wA.heap[b0]? = some (.cells fr 24 (0, 0))) (hBA : Below w.heap.size w wA) (hb1 : b1 = wA.heap.size) (hB : wB.heap[b1]? = some (.cells #[.slice none 0 0, .int .i64 0, .int .i64 0] 80 (0, 0))) (hBB : Below wA.heap.size wA wB) : RdSt w fr b0 b1 wB [] 0 0 :=
 ⟨zqbf hBA hBA.size hBB, by omega, by have := hBA.size; omega, by have := blk_lt hA; omega, zqam hA hBB, ⟨_, hB, Kd.R_nil _ _ _ _ _⟩⟩
theorem dec_meas {ST k : Nat} (hlt : k < ST) (hk1 : wrap64 ((k : Int) + 1) = (k : Int) + 1) : ST - (intOf (.int .i64 (wrap64 ((k : Int) + 1)))).toNat < ST - (intOf (.int .i64 (k : Int))).toNat := by
 rw [hk1]
 show ST - ((k : Int) + 1).toNat < ST - ((k : Int)).toNat
 omega
theorem put12 {W : World} {b : Nat} {t : TypeId} {x0 x1 x2 x3 x4 x5 x6 x7 x8 x9 x10 x11 : Value} (v0 v1 v2 v3 v4 v5 v6 v7 v8 v9 v10 v11 : Value) (h : W.heap[b]? = some (.cells #[x0, x1, x2, x3, x4, x5, x6, x7, x8, x9, x10, x11] t (0, 0))) :
  ((((((((((((W.setCell ⟨b, 0, none⟩ v0).setCell ⟨b, 1, none⟩ v1).setCell ⟨b, 2, none⟩ v2).setCell ⟨b, 3, none⟩ v3).setCell ⟨b, 4, none⟩ v4).setCell ⟨b, 5, none⟩ v5).setCell ⟨b, 6, none⟩ v6).setCell ⟨b, 7, none⟩ v7).setCell ⟨b, 8, none⟩ v8).setCell ⟨b, 9, none⟩ v9).setCell ⟨b, 10, none⟩ v10).setCell ⟨b, 11, none⟩ v11).heap[b]? = some (.cells #[v0, v1, v2, v3, v4, v5, v6, v7, v8, v9, v10, v11] t (0, 0)) := by
 have h0 : (W.setCell ⟨b, 0, none⟩ v0).heap[b]? = some (.cells #[v0, x1, x2, x3, x4, x5, x6, x7, x8, x9, x10, x11] t (0, 0)) := zqan h 0 v0 rfl
 have h1 : ((W.setCell ⟨b, 0, none⟩ v0).setCell ⟨b, 1, none⟩ v1).heap[b]? = some (.cells #[v0, v1, x2, x3, x4, x5, x6, x7, x8, x9, x10, x11] t (0, 0)) := zqan h0 1 v1 rfl
 have h2 : (((W.setCell ⟨b, 0, none⟩ v0).setCell ⟨b, 1, none⟩ v1).setCell ⟨b, 2, none⟩ v2).heap[b]? = some (.cells #[v0, v1, v2, x3, x4, x5, x6, x7, x8, x9, x10, x11] t (0, 0)) := zqan h1 2 v2 rfl
 have h3 : ((((W.setCell ⟨b, 0, none⟩ v0).setCell ⟨b, 1, none⟩ v1).setCell ⟨b, 2, none⟩ v2).setCell ⟨b, 3, none⟩ v3).heap[b]? = some (.cells #[v0, v1, v2, v3, x4, x5, x6, x7, x8, x9, x10, x11] t (0, 0)) := zqan h2 3 v3 rfl
 have h4 : (((((W.setCell ⟨b, 0, none⟩ v0).setCell ⟨b, 1, none⟩ v1).setCell ⟨b, 2, none⟩ v2).setCell ⟨b, 3, none⟩ v3).setCell ⟨b, 4, none⟩ v4).heap[b]? = some (.cells #[v0, v1, v2, v3, v4, x5, x6, x7, x8, x9, x10, x11] t (0, 0)) := zqan h3 4 v4 rfl
 have h5 : ((((((W.setCell ⟨b, 0, none⟩ v0).setCell ⟨b, 1, none⟩ v1).setCell ⟨b, 2, none⟩ v2).setCell ⟨b, 3, none⟩ v3).setCell ⟨b, 4, none⟩ v4).setCell ⟨b, 5, none⟩ v5).heap[b]? = some (.cells #[v0, v1, v2, v3, v4, v5, x6, x7, x8, x9, x10, x11] t (0, 0)) := zqan h4 5 v5 rfl
 have h6 : (((((((W.setCell ⟨b, 0, none⟩ v0).setCell ⟨b, 1, none⟩ v1).setCell ⟨b, 2, none⟩ v2).setCell ⟨b, 3, none⟩ v3).setCell ⟨b, 4, none⟩ v4).setCell ⟨b, 5, none⟩ v5).setCell ⟨b, 6, none⟩ v6).heap[b]? = some (.cells #[v0, v1, v2, v3, v4, v5, v6, x7, x8, x9, x10, x11] t (0, 0)) := zqan h5 6 v6 rfl
 have h7 : ((((((((W.setCell ⟨b, 0, none⟩ v0).setCell ⟨b, 1, none⟩ v1).setCell ⟨b, 2, none⟩ v2).setCell ⟨b, 3, none⟩ v3).setCell ⟨b, 4, none⟩ v4).setCell ⟨b, 5, none⟩ v5).setCell ⟨b, 6, none⟩ v6).setCell ⟨b, 7, none⟩ v7).heap[b]? = some (.cells #[v0, v1, v2, v3, v4, v5, v6, v7, x8, x9, x10, x11] t (0, 0)) := zqan h6 7 v7 rfl
 have h8 : (((((((((W.setCell ⟨b, 0, none⟩ v0).setCell ⟨b, 1, none⟩ v1).setCell ⟨b, 2, none⟩ v2).setCell ⟨b, 3, none⟩ v3).setCell ⟨b, 4, none⟩ v4).setCell ⟨b, 5, none⟩ v5).setCell ⟨b, 6, none⟩ v6).setCell ⟨b, 7, none⟩ v7).setCell ⟨b, 8, none⟩ v8).heap[b]? = some (.cells #[v0, v1, v2, v3, v4, v5, v6, v7, v8, x9, x10, x11] t (0, 0)) := zqan h7 8 v8 rfl
 have h9 : ((((((((((W.setCell ⟨b, 0, none⟩ v0).setCell ⟨b, 1, none⟩ v1).setCell ⟨b, 2, none⟩ v2).setCell ⟨b, 3, none⟩ v3).setCell ⟨b, 4, none⟩ v4).setCell ⟨b, 5, none⟩ v5).setCell ⟨b, 6, none⟩ v6).setCell ⟨b, 7, none⟩ v7).setCell ⟨b, 8, none⟩ v8).setCell ⟨b, 9, none⟩ v9).heap[b]? = some (.cells #[v0, v1, v2, v3, v4, v5, v6, v7, v8, v9, x10, x11] t (0, 0)) := zqan h8 9 v9 rfl
 have h10 : (((((((((((W.setCell ⟨b, 0, none⟩ v0).setCell ⟨b, 1, none⟩ v1).setCell ⟨b, 2, none⟩ v2).setCell ⟨b, 3, none⟩ v3).setCell ⟨b, 4, none⟩ v4).setCell ⟨b, 5, none⟩ v5).setCell ⟨b, 6, none⟩ v6).setCell ⟨b, 7, none⟩ v7).setCell ⟨b, 8, none⟩ v8).setCell ⟨b, 9, none⟩ v9).setCell ⟨b, 10, none⟩ v10).heap[b]? = some (.cells #[v0, v1, v2, v3, v4, v5, v6, v7, v8, v9, v10, x11] t (0, 0)) := zqan h9 10 v10 rfl
 have h11 : ((((((((((((W.setCell ⟨b, 0, none⟩ v0).setCell ⟨b, 1, none⟩ v1).setCell ⟨b, 2, none⟩ v2).setCell ⟨b, 3, none⟩ v3).setCell ⟨b, 4, none⟩ v4).setCell ⟨b, 5, none⟩ v5).setCell ⟨b, 6, none⟩ v6).setCell ⟨b, 7, none⟩ v7).setCell ⟨b, 8, none⟩ v8).setCell ⟨b, 9, none⟩ v9).setCell ⟨b, 10, none⟩ v10).setCell ⟨b, 11, none⟩ v11).heap[b]? = some (.cells #[v0, v1, v2, v3, v4, v5, v6, v7, v8, v9, v10, v11] t (0, 0)) := zqan h10 11 v11 rfl
 exact h11
theorem below12 {w W : World} {b : Nat} (v0 v1 v2 v3 v4 v5 v6 v7 v8 v9 v10 v11 : Value) (h : Below w.heap.size w W) (hb : w.heap.size ≤ b) :
  Below w.heap.size w ((((((((((((W.setCell ⟨b, 0, none⟩ v0).setCell ⟨b, 1, none⟩ v1).setCell ⟨b, 2, none⟩ v2).setCell ⟨b, 3, none⟩ v3).setCell ⟨b, 4, none⟩ v4).setCell ⟨b, 5, none⟩ v5).setCell ⟨b, 6, none⟩ v6).setCell ⟨b, 7, none⟩ v7).setCell ⟨b, 8, none⟩ v8).setCell ⟨b, 9, none⟩ v9).setCell ⟨b, 10, none⟩ v10).setCell ⟨b, 11, none⟩ v11) := by
 have h0 : Below w.heap.size w (W.setCell ⟨b, 0, none⟩ v0) := zqah h hb
 have h1 : Below w.heap.size w ((W.setCell ⟨b, 0, none⟩ v0).setCell ⟨b, 1, none⟩ v1) := zqah h0 hb
 have h2 : Below w.heap.size w (((W.setCell ⟨b, 0, none⟩ v0).setCell ⟨b, 1, none⟩ v1).setCell ⟨b, 2, none⟩ v2) := zqah h1 hb
 have h3 : Below w.heap.size w ((((W.setCell ⟨b, 0, none⟩ v0).setCell ⟨b, 1, none⟩ v1).setCell ⟨b, 2, none⟩ v2).setCell ⟨b, 3, none⟩ v3) := zqah h2 hb
 have h4 : Below w.heap.size w (((((W.setCell ⟨b, 0, none⟩ v0).setCell ⟨b, 1, none⟩ v1).setCell ⟨b, 2, none⟩ v2).setCell ⟨b, 3, none⟩ v3).setCell ⟨b, 4, none⟩ v4) := zqah h3 hb
 have h5 : Below w.heap.size w ((((((W.setCell ⟨b, 0, none⟩ v0).setCell ⟨b, 1, none⟩ v1).setCell ⟨b, 2, none⟩ v2).setCell ⟨b, 3, none⟩ v3).setCell ⟨b, 4, none⟩ v4).setCell ⟨b, 5, none⟩ v5) := zqah h4 hb
 have h6 : Below w.heap.size w (((((((W.setCell ⟨b, 0, none⟩ v0).setCell ⟨b, 1, none⟩ v1).setCell ⟨b, 2, none⟩ v2).setCell ⟨b, 3, none⟩ v3).setCell ⟨b, 4, none⟩ v4).setCell ⟨b, 5, none⟩ v5).setCell ⟨b, 6, none⟩ v6) := zqah h5 hb
 have h7 : Below w.heap.size w ((((((((W.setCell ⟨b, 0, none⟩ v0).setCell ⟨b, 1, none⟩ v1).setCell ⟨b, 2, none⟩ v2).setCell ⟨b, 3, none⟩ v3).setCell ⟨b, 4, none⟩ v4).setCell ⟨b, 5, none⟩ v5).setCell ⟨b, 6, none⟩ v6).setCell ⟨b, 7, none⟩ v7) := zqah h6 hb
 have h8 : Below w.heap.size w (((((((((W.setCell ⟨b, 0, none⟩ v0).setCell ⟨b, 1, none⟩ v1).setCell ⟨b, 2, none⟩ v2).setCell ⟨b, 3, none⟩ v3).setCell ⟨b, 4, none⟩ v4).setCell ⟨b, 5, none⟩ v5).setCell ⟨b, 6, none⟩ v6).setCell ⟨b, 7, none⟩ v7).setCell ⟨b, 8, none⟩ v8) := zqah h7 hb
 have h9 : Below w.heap.size w ((((((((((W.setCell ⟨b, 0, none⟩ v0).setCell ⟨b, 1, none⟩ v1).setCell ⟨b, 2, none⟩ v2).setCell ⟨b, 3, none⟩ v3).setCell ⟨b, 4, none⟩ v4).setCell ⟨b, 5, none⟩ v5).setCell ⟨b, 6, none⟩ v6).setCell ⟨b, 7, none⟩ v7).setCell ⟨b, 8, none⟩ v8).setCell ⟨b, 9, none⟩ v9) := zqah h8 hb
 have h10 : Below w.heap.size w (((((((((((W.setCell ⟨b, 0, none⟩ v0).setCell ⟨b, 1, none⟩ v1).setCell ⟨b, 2, none⟩ v2).setCell ⟨b, 3, none⟩ v3).setCell ⟨b, 4, none⟩ v4).setCell ⟨b, 5, none⟩ v5).setCell ⟨b, 6, none⟩ v6).setCell ⟨b, 7, none⟩ v7).setCell ⟨b, 8, none⟩ v8).setCell ⟨b, 9, none⟩ v9).setCell ⟨b, 10, none⟩ v10) := zqah h9 hb
 have h11 : Below w.heap.size w ((((((((((((W.setCell ⟨b, 0, none⟩ v0).setCell ⟨b, 1, none⟩ v1).setCell ⟨b, 2, none⟩ v2).setCell ⟨b, 3, none⟩ v3).setCell ⟨b, 4, none⟩ v4).setCell ⟨b, 5, none⟩ v5).setCell ⟨b, 6, none⟩ v6).setCell ⟨b, 7, none⟩ v7).setCell ⟨b, 8, none⟩ v8).setCell ⟨b, 9, none⟩ v9).setCell ⟨b, 10, none⟩ v10).setCell ⟨b, 11, none⟩ v11) := zqah h10 hb
 exact h11
set_option maxHeartbeats 4000000 in
set_option maxRecDepth 100000 in
theorem decode_all (A0 : Option Addr) (c0 : Nat) (l0 : List Int) (res : Int × Bool × Bool × Int × Int × Int × Int × Int × Int × Int × Int × Int × Int × Int) (w : World) (hr0 : Kd.C (Kd.int .i64) w A0 l0.length l0) (hc0 : l0.length ≤ c0) (h : codec_Decode.f l0 = some res) :
  Calls Try.prog 35 #[.slice A0 l0.length c0] w fun e w' => e = .returned (.tuple #[.agg #[.int .i64 res.1, .bool res.2.1, .bool res.2.2.1, .int .i64 res.2.2.2.1, .int .u8 res.2.2.2.2.1, .int .u8 res.2.2.2.2.2.1, .int .u8 res.2.2.2.2.2.2.1, .int .u8 res.2.2.2.2.2.2.2.1, .int .u8 res.2.2.2.2.2.2.2.2.1, .int .u8 res.2.2.2.2.2.2.2.2.2.1, .int .u8 res.2.2.2.2.2.2.2.2.2.2.1, .int .u8 res.2.2.2.2.2.2.2.2.2.2.2.1], .int .i64 res.2.2.2.2.2.2.2.2.2.2.2.2.1, .int .i64 res.2.2.2.2.2.2.2.2.2.2.2.2.2]) ∧ Below w.heap.size w w' := by
 have HR0 := Aside0.mk hr0
 have HC0 := Aside0.mk hc0
 clear hr0 hc0
 unfold codec_Decode.f at h
 by_cases hsz : l0.length ≤ 1000000 ∧ decStop l0 ≤ l0.length
 ·
  rw [if_pos hsz] at h
  have hmf : ∀ (fn : Fn) (first cap : Array Value) (w : World), (Instr.makeFunc fn first cap).run Try.prog w = .ok (.func fn first cap) w := fun _ _ _ _ => rfl
  obtain ⟨i0, hi0, _, hsz0, _⟩ := info_parts info3
  have hcut := fun (j : Int) (h0 : 0 ≤ j) (hm : j ≤ (l0.length : Int)) => cut_to (P := Try.prog) 25 3 .i64 Try.underlying25 hi0 A0 l0.length c0 j h0 hm HC0.out
  have hct := hcut (decStop l0 : Int) (by omega) (by omega)
  rw [Int.toNat_natCast] at hct
  clear hcut hi0 hsz0
  have HSZ := Aside0.mk hsz
  clear hsz
  have HH := Aside0.mk h
  clear h
  by_cases hck : chk l0 0 ≥ 0
  ·
   have hst : chk l0 0 = (decStop l0 : Int) := by unfold decStop; rw [if_pos hck]; omega
   generalize decStop l0 = ST at hst hct HSZ HH
   have hkd : decide (0 ≤ (ST : Int)) = true := decide_eq_true (by omega)
   clear hck
   go_enter Try.func35, Try.ntmps35
   go_wp2_with (first | ((with_reducible refine zqar (N := 2) rfl ?_); refine zqav ?hg1 (N := 2) ?hd1 (cs := #[.int .i64 0, .bool false, .bool false, .int .i64 0, .int .u8 0, .int .u8 0, .int .u8 0, .int .u8 0, .int .u8 0, .int .u8 0, .int .u8 0, .int .u8 0]) (t := 24) ?hr1 ?_; (case hd1 => rfl); (case hg1 => rfl); (case hr1 => first | (go_simp; done) | (go_simp; rfl)); intro b0 eb0 wA hA hBA; have HA := Aside0.mk hA; have HBA := Aside0.mk hBA; have EB0 := Aside0.mk eb0; clear hA hBA eb0) | ((with_reducible refine zqar (N := 5) rfl ?_); refine zqav ?hg2 (N := 5) ?hd2 (cs := #[.slice none 0 0, .int .i64 0, .int .i64 0]) (t := 80) ?hr2 ?_; (case hd2 => rfl); (case hg2 => rfl); (case hr2 => first | (go_simp; done) | (go_simp; rfl)); intro b1 eb1 wB hB hBB; have HP0 := Aside0.mk (RdSt.start EB0.out HA.out HBA.out eb1 hB hBB); clear eb1 hB hBB) | (go_at_call 53; refine (bits_Check.calls A0 c0 l0 (chk l0 0) _ (Kd.C_below HR0.out HP0.out.bel) HC0.out rfl).mono ?_; rintro e wC ⟨rfl, hd⟩; rw [hst]; have HP1 := Aside0.mk (HP0.out.after hd.below); clear hd))
   go_loopw [26] (fun i wr => ∃ (k : Nat) (raw : List Int) (last run : Int), k ≤ ST ∧ i = .int .i64 (k : Int) ∧ Aside0 ((decL ((l0.take ST).drop k) (k : Int) raw last run).bind (fun o => some (o.getD (if ST < l0.length then (0, false, false, 0, 0, 0, 0, 0, 0, 0, 0, 0, (ST : Int), 10) else (0, false, false, 0, 0, 0, 0, 0, 0, 0, 0, 0, (ST : Int), 13)))) = some res) ∧ Aside0 (RdSt w #[.int .i64 0, .bool false, .bool false, .int .i64 0, .int .u8 0, .int .u8 0, .int .u8 0, .int .u8 0, .int .u8 0, .int .u8 0, .int .u8 0, .int .u8 0] b0 b1 wr raw last run)) (fun i _ => ST - (intOf i).toNat)
   case atStart => exact ⟨0, [], 0, 0, Nat.zero_le _, rfl, ⟨by rw [List.drop_zero]; exact HH.out⟩, HP1⟩
   case round =>
    clear HH
    obtain ⟨k, raw, last, run, hk, rfl, HM, HP⟩ := hrel
    by_cases hlt : k < ST
    ·
     have hm := HM.out
     clear HM
     have hlen : (l0.take ST).length = ST := by rw [List.length_take]; have := HSZ.out; omega
     have hkb : k < (l0.take ST).length := by omega
     have hkl : k < l0.length := by have := HSZ.out; omega
     rw [List.drop_eq_getElem_cons hkb, decL] at hm
     have hbe : (l0.take ST)[k] = rd l0 (k : Int) := by rw [List.getElem_take]; simp [rd, List.getD_eq_getElem?_getD, List.getElem?_eq_getElem hkl]
     rw [hbe] at hm
     obtain ⟨ad, e, hx⟩ := Kd.at_int (Kd.C_below HR0.out HP.out.bel) (k : Int) (by omega) (by omega)
     cases e
     rw [Int.toNat_natCast] at hx
     have hltb : decide ((k : Int) < (ST : Int)) = true := decide_eq_true (by omega)
     have hk1 : wrap64 ((k : Int) + 1) = (k : Int) + 1 := by unfold wrap64; have := HSZ.out; omega
     clear hlen hkb hbe
     cases ht : takeF raw last run (rd l0 (k : Int)) with
     | none => rw [ht] at hm; exact absurd hm (by simp)
     | some u =>
      obtain ⟨r, raw', last', run'⟩ := u
      rw [ht] at hm
      simp only [Option.bind_some] at hm
      have HTK := Aside0.mk ht
      clear ht
      by_cases r0 : r ≠ 0
      ·
       rw [if_pos r0] at hm
       simp only [Option.bind_some, Option.getD_some, Option.some.injEq] at hm
       subst hm
       have r0b : (r != 0) = true := bne_iff_ne.mpr r0
       clear r0
       go_wp2_with (first | (go_at_call 62; refine (take.calls w _ #[.int .i64 0, .bool false, .bool false, .int .i64 0, .int .u8 0, .int .u8 0, .int .u8 0, .int .u8 0, .int .u8 0, .int .u8 0, .int .u8 0, .int .u8 0] b0 b1 raw last run (rd l0 (k : Int)) r last' run' raw' HP.out HTK.out).mono ?_; rintro e wT ⟨rfl, hT⟩; have HP2 := Aside0.mk hT; clear hT; have zc0 : wT.cell? ⟨b0, 0, none⟩ = some (.int .i64 0) := (zqab HP2.out.bk 0).trans rfl; have zf0 := zqaa HP2.out.bk 0; have zc1 : wT.cell? ⟨b0, 1, none⟩ = some (.bool false) := (zqab HP2.out.bk 1).trans rfl; have zf1 := zqaa HP2.out.bk 1; have zc2 : wT.cell? ⟨b0, 2, none⟩ = some (.bool false) := (zqab HP2.out.bk 2).trans rfl; have zf2 := zqaa HP2.out.bk 2; have zc3 : wT.cell? ⟨b0, 3, none⟩ = some (.int .i64 0) := (zqab HP2.out.bk 3).trans rfl; have zf3 := zqaa HP2.out.bk 3; have zc4 : wT.cell? ⟨b0, 4, none⟩ = some (.int .u8 0) := (zqab HP2.out.bk 4).trans rfl; have zf4 := zqaa HP2.out.bk 4; have zc5 : wT.cell? ⟨b0, 5, none⟩ = some (.int .u8 0) := (zqab HP2.out.bk 5).trans rfl; have zf5 := zqaa HP2.out.bk 5; have zc6 : wT.cell? ⟨b0, 6, none⟩ = some (.int .u8 0) := (zqab HP2.out.bk 6).trans rfl; have zf6 := zqaa HP2.out.bk 6; have zc7 : wT.cell? ⟨b0, 7, none⟩ = some (.int .u8 0) := (zqab HP2.out.bk 7).trans rfl; have zf7 := zqaa HP2.out.bk 7; have zc8 : wT.cell? ⟨b0, 8, none⟩ = some (.int .u8 0) := (zqab HP2.out.bk 8).trans rfl; have zf8 := zqaa HP2.out.bk 8; have zc9 : wT.cell? ⟨b0, 9, none⟩ = some (.int .u8 0) := (zqab HP2.out.bk 9).trans rfl; have zf9 := zqaa HP2.out.bk 9; have zc10 : wT.cell? ⟨b0, 10, none⟩ = some (.int .u8 0) := (zqab HP2.out.bk 10).trans rfl; have zf10 := zqaa HP2.out.bk 10; have zc11 : wT.cell? ⟨b0, 11, none⟩ = some (.int .u8 0) := (zqab HP2.out.bk 11).trans rfl; have zf11 := zqaa HP2.out.bk 11))
       refine bodyPost_ret (zqbi rfl _ _ b0 24 #[.int .i64 0, .bool false, .bool false, .int .i64 0, .int .u8 0, .int .u8 0, .int .u8 0, .int .u8 0, .int .u8 0, .int .u8 0, .int .u8 0, .int .u8 0] (0, 0) _ rfl (put12 _ _ _ _ _ _ _ _ _ _ _ _ HP2.out.bk) Try.underlying24 rfl (by kernel_rfl)) rfl ?_
       exact ⟨rfl, below12 _ _ _ _ _ _ _ _ _ _ _ _ HP2.out.bel HP2.out.le0⟩
      ·
       obtain rfl : r = 0 := by simpa using r0
       rw [if_neg r0] at hm
       clear r0
       cases hn : field_Next.f raw' with
       | none => rw [hn] at hm; exact absurd hm (by simp)
       | some q =>
        obtain ⟨kd, n, er⟩ := q
        rw [hn] at hm
        simp only [Option.bind_some] at hm
        have HN := Aside0.mk hn
        clear hn
        by_cases d9 : er = 0 ∧ kd = 9
        ·
         rw [if_pos d9] at hm
         have hd9 : decide (er = 0 ∧ kd = 9) = true := decide_eq_true d9
         clear d9
         cases hf : field_Frame.f 1000 raw' with
         | none => rw [hf] at hm; exact absurd hm (by simp)
         | some q =>
          obtain ⟨q1, q2, q3, q4, q5, q6, q7, q8, q9, q10, q11, q12, q13⟩ := q
          rw [hf] at hm
          simp only [Option.bind_some] at hm
          have HFR := Aside0.mk hf
          clear hf
          by_cases qe : q13 ≠ 0
          ·
           rw [if_pos qe] at hm
           simp only [Option.bind_some, Option.getD_some, Option.some.injEq] at hm
           subst hm
           have qeb : (q13 != 0) = true := bne_iff_ne.mpr qe
           clear qe
           go_wp2_with (first | (go_at_call 62; refine (take.calls w _ #[.int .i64 0, .bool false, .bool false, .int .i64 0, .int .u8 0, .int .u8 0, .int .u8 0, .int .u8 0, .int .u8 0, .int .u8 0, .int .u8 0, .int .u8 0] b0 b1 raw last run (rd l0 (k : Int)) 0 last' run' raw' HP.out HTK.out).mono ?_; rintro e wT ⟨rfl, hT⟩; have HP2 := Aside0.mk hT; clear hT; have zc0 : wT.cell? ⟨b0, 0, none⟩ = some (.int .i64 0) := (zqab HP2.out.bk 0).trans rfl; have zf0 := zqaa HP2.out.bk 0; have zc1 : wT.cell? ⟨b0, 1, none⟩ = some (.bool false) := (zqab HP2.out.bk 1).trans rfl; have zf1 := zqaa HP2.out.bk 1; have zc2 : wT.cell? ⟨b0, 2, none⟩ = some (.bool false) := (zqab HP2.out.bk 2).trans rfl; have zf2 := zqaa HP2.out.bk 2; have zc3 : wT.cell? ⟨b0, 3, none⟩ = some (.int .i64 0) := (zqab HP2.out.bk 3).trans rfl; have zf3 := zqaa HP2.out.bk 3; have zc4 : wT.cell? ⟨b0, 4, none⟩ = some (.int .u8 0) := (zqab HP2.out.bk 4).trans rfl; have zf4 := zqaa HP2.out.bk 4; have zc5 : wT.cell? ⟨b0, 5, none⟩ = some (.int .u8 0) := (zqab HP2.out.bk 5).trans rfl; have zf5 := zqaa HP2.out.bk 5; have zc6 : wT.cell? ⟨b0, 6, none⟩ = some (.int .u8 0) := (zqab HP2.out.bk 6).trans rfl; have zf6 := zqaa HP2.out.bk 6; have zc7 : wT.cell? ⟨b0, 7, none⟩ = some (.int .u8 0) := (zqab HP2.out.bk 7).trans rfl; have zf7 := zqaa HP2.out.bk 7; have zc8 : wT.cell? ⟨b0, 8, none⟩ = some (.int .u8 0) := (zqab HP2.out.bk 8).trans rfl; have zf8 := zqaa HP2.out.bk 8; have zc9 : wT.cell? ⟨b0, 9, none⟩ = some (.int .u8 0) := (zqab HP2.out.bk 9).trans rfl; have zf9 := zqaa HP2.out.bk 9; have zc10 : wT.cell? ⟨b0, 10, none⟩ = some (.int .u8 0) := (zqab HP2.out.bk 10).trans rfl; have zf10 := zqaa HP2.out.bk 10; have zc11 : wT.cell? ⟨b0, 11, none⟩ = some (.int .u8 0) := (zqab HP2.out.bk 11).trans rfl; have zf11 := zqaa HP2.out.bk 11) | (go_at_call 63; have hD0 := done.calls w _ #[.int .i64 0, .bool false, .bool false, .int .i64 0, .int .u8 0, .int .u8 0, .int .u8 0, .int .u8 0, .int .u8 0, .int .u8 0, .int .u8 0, .int .u8 0] b0 b1 raw' last' run' kd n er HP2.out HN.out; rw [hd9] at hD0; refine hD0.mono ?_; clear hD0; rintro e wD ⟨rfl, hD⟩; have HP3 := Aside0.mk hD; clear hD; obtain ⟨A3, c3, HF3, g30, g31, g32, f30, f31, f32⟩ := HP3.out.facts) | (go_at_call 29; refine (field_Frame.calls 1000 A3 c3 raw' q1 q2 q3 q4 q5 q6 q7 q8 q9 q10 q11 q12 q13 _ (Kd.R_reads' HF3.out.2).2.2 (Kd.R_reads' HF3.out.2).2.1 HFR.out).mono ?_; rintro e wF ⟨rfl, hb⟩; have HP4 := Aside0.mk (HP3.out.after hb); clear hb) | ((with_reducible refine zqar (N := 12) rfl ?_); refine zqav ?hg3 (N := 12) ?hd3 (cs := #[.int .i64 0, .bool false, .bool false, .int .i64 0, .int .u8 0, .int .u8 0, .int .u8 0, .int .u8 0, .int .u8 0, .int .u8 0, .int .u8 0, .int .u8 0]) (t := 24) ?hr3 ?_; (case hd3 => rfl); (case hg3 => rfl); (case hr3 => first | (go_simp; done) | (go_simp; rfl)); intro g eg wG hG hBG; have HG := Aside0.mk hG; have HBG := Aside0.mk hBG; have EG := Aside0.mk eg; clear hG hBG eg; have ncc0 : wG.cell? ⟨g, 0, none⟩ = some (.int .i64 0) := (zqab HG.out 0).trans rfl; have ncf0 := zqaa HG.out 0; have ncc1 : wG.cell? ⟨g, 1, none⟩ = some (.bool false) := (zqab HG.out 1).trans rfl; have ncf1 := zqaa HG.out 1; have ncc2 : wG.cell? ⟨g, 2, none⟩ = some (.bool false) := (zqab HG.out 2).trans rfl; have ncf2 := zqaa HG.out 2; have ncc3 : wG.cell? ⟨g, 3, none⟩ = some (.int .i64 0) := (zqab HG.out 3).trans rfl; have ncf3 := zqaa HG.out 3; have ncc4 : wG.cell? ⟨g, 4, none⟩ = some (.int .u8 0) := (zqab HG.out 4).trans rfl; have ncf4 := zqaa HG.out 4; have ncc5 : wG.cell? ⟨g, 5, none⟩ = some (.int .u8 0) := (zqab HG.out 5).trans rfl; have ncf5 := zqaa HG.out 5; have ncc6 : wG.cell? ⟨g, 6, none⟩ = some (.int .u8 0) := (zqab HG.out 6).trans rfl; have ncf6 := zqaa HG.out 6; have ncc7 : wG.cell? ⟨g, 7, none⟩ = some (.int .u8 0) := (zqab HG.out 7).trans rfl; have ncf7 := zqaa HG.out 7; have ncc8 : wG.cell? ⟨g, 8, none⟩ = some (.int .u8 0) := (zqab HG.out 8).trans rfl; have ncf8 := zqaa HG.out 8; have ncc9 : wG.cell? ⟨g, 9, none⟩ = some (.int .u8 0) := (zqab HG.out 9).trans rfl; have ncf9 := zqaa HG.out 9; have ncc10 : wG.cell? ⟨g, 10, none⟩ = some (.int .u8 0) := (zqab HG.out 10).trans rfl; have ncf10 := zqaa HG.out 10; have ncc11 : wG.cell? ⟨g, 11, none⟩ = some (.int .u8 0) := (zqab HG.out 11).trans rfl; have ncf11 := zqaa HG.out 11) | ((with_reducible refine zqau (t := 24) (p := 12) rfl ?_); refine zqap (t := 24) (p := 12) (v := ?vo12) (w1 := ((((((((((((wG.setCell ⟨g, 0, none⟩ (.int .i64 q1)).setCell ⟨g, 1, none⟩ (.bool q2)).setCell ⟨g, 2, none⟩ (.bool q3)).setCell ⟨g, 3, none⟩ (.int .i64 q4)).setCell ⟨g, 4, none⟩ (.int .u8 q5)).setCell ⟨g, 5, none⟩ (.int .u8 q6)).setCell ⟨g, 6, none⟩ (.int .u8 q7)).setCell ⟨g, 7, none⟩ (.int .u8 q8)).setCell ⟨g, 8, none⟩ (.int .u8 q9)).setCell ⟨g, 9, none⟩ (.int .u8 q10)).setCell ⟨g, 10, none⟩ (.int .u8 q11)).setCell ⟨g, 11, none⟩ (.int .u8 q12))) ?hg ?ho ?hn ?hr ?_; (case ho => rfl); (case hg => rfl); (case hn => rfl); (case hr => first | (go_simp; done) | (go_simp; rfl)); intro wH hw; have HGH := Aside0.mk (by rw [hw]; exact put12 _ _ _ _ _ _ _ _ _ _ _ _ HG.out : wH.heap[g]? = some (.cells #[.int .i64 q1, .bool q2, .bool q3, .int .i64 q4, .int .u8 q5, .int .u8 q6, .int .u8 q7, .int .u8 q8, .int .u8 q9, .int .u8 q10, .int .u8 q11, .int .u8 q12] 24 (0, 0))); have HP6 := Aside0.mk (HP4.out.after (by rw [hw]; exact below12 _ _ _ _ _ _ _ _ _ _ _ _ HBG.out (by rw [EG.out]; exact Nat.le_refl _)) : RdSt w #[.int .i64 0, .bool false, .bool false, .int .i64 0, .int .u8 0, .int .u8 0, .int .u8 0, .int .u8 0, .int .u8 0, .int .u8 0, .int .u8 0, .int .u8 0] b0 b1 wH raw' last' run'); clear hw; have mcc0 : wH.cell? ⟨g, 0, none⟩ = some (.int .i64 q1) := (zqab HGH.out 0).trans rfl; have mcf0 := zqaa HGH.out 0; have mcc1 : wH.cell? ⟨g, 1, none⟩ = some (.bool q2) := (zqab HGH.out 1).trans rfl; have mcf1 := zqaa HGH.out 1; have mcc2 : wH.cell? ⟨g, 2, none⟩ = some (.bool q3) := (zqab HGH.out 2).trans rfl; have mcf2 := zqaa HGH.out 2; have mcc3 : wH.cell? ⟨g, 3, none⟩ = some (.int .i64 q4) := (zqab HGH.out 3).trans rfl; have mcf3 := zqaa HGH.out 3; have mcc4 : wH.cell? ⟨g, 4, none⟩ = some (.int .u8 q5) := (zqab HGH.out 4).trans rfl; have mcf4 := zqaa HGH.out 4; have mcc5 : wH.cell? ⟨g, 5, none⟩ = some (.int .u8 q6) := (zqab HGH.out 5).trans rfl; have mcf5 := zqaa HGH.out 5; have mcc6 : wH.cell? ⟨g, 6, none⟩ = some (.int .u8 q7) := (zqab HGH.out 6).trans rfl; have mcf6 := zqaa HGH.out 6; have mcc7 : wH.cell? ⟨g, 7, none⟩ = some (.int .u8 q8) := (zqab HGH.out 7).trans rfl; have mcf7 := zqaa HGH.out 7; have mcc8 : wH.cell? ⟨g, 8, none⟩ = some (.int .u8 q9) := (zqab HGH.out 8).trans rfl; have mcf8 := zqaa HGH.out 8; have mcc9 : wH.cell? ⟨g, 9, none⟩ = some (.int .u8 q10) := (zqab HGH.out 9).trans rfl; have mcf9 := zqaa HGH.out 9; have mcc10 : wH.cell? ⟨g, 10, none⟩ = some (.int .u8 q11) := (zqab HGH.out 10).trans rfl; have mcf10 := zqaa HGH.out 10; have mcc11 : wH.cell? ⟨g, 11, none⟩ = some (.int .u8 q12) := (zqab HGH.out 11).trans rfl; have mcf11 := zqaa HGH.out 11; have zdc0 : wH.cell? ⟨b0, 0, none⟩ = some (.int .i64 0) := (zqab HP6.out.bk 0).trans rfl; have zdf0 := zqaa HP6.out.bk 0; have zdc1 : wH.cell? ⟨b0, 1, none⟩ = some (.bool false) := (zqab HP6.out.bk 1).trans rfl; have zdf1 := zqaa HP6.out.bk 1; have zdc2 : wH.cell? ⟨b0, 2, none⟩ = some (.bool false) := (zqab HP6.out.bk 2).trans rfl; have zdf2 := zqaa HP6.out.bk 2; have zdc3 : wH.cell? ⟨b0, 3, none⟩ = some (.int .i64 0) := (zqab HP6.out.bk 3).trans rfl; have zdf3 := zqaa HP6.out.bk 3; have zdc4 : wH.cell? ⟨b0, 4, none⟩ = some (.int .u8 0) := (zqab HP6.out.bk 4).trans rfl; have zdf4 := zqaa HP6.out.bk 4; have zdc5 : wH.cell? ⟨b0, 5, none⟩ = some (.int .u8 0) := (zqab HP6.out.bk 5).trans rfl; have zdf5 := zqaa HP6.out.bk 5; have zdc6 : wH.cell? ⟨b0, 6, none⟩ = some (.int .u8 0) := (zqab HP6.out.bk 6).trans rfl; have zdf6 := zqaa HP6.out.bk 6; have zdc7 : wH.cell? ⟨b0, 7, none⟩ = some (.int .u8 0) := (zqab HP6.out.bk 7).trans rfl; have zdf7 := zqaa HP6.out.bk 7; have zdc8 : wH.cell? ⟨b0, 8, none⟩ = some (.int .u8 0) := (zqab HP6.out.bk 8).trans rfl; have zdf8 := zqaa HP6.out.bk 8; have zdc9 : wH.cell? ⟨b0, 9, none⟩ = some (.int .u8 0) := (zqab HP6.out.bk 9).trans rfl; have zdf9 := zqaa HP6.out.bk 9; have zdc10 : wH.cell? ⟨b0, 10, none⟩ = some (.int .u8 0) := (zqab HP6.out.bk 10).trans rfl; have zdf10 := zqaa HP6.out.bk 10; have zdc11 : wH.cell? ⟨b0, 11, none⟩ = some (.int .u8 0) := (zqab HP6.out.bk 11).trans rfl; have zdf11 := zqaa HP6.out.bk 11))
           refine bodyPost_ret (zqbi rfl _ _ b0 24 #[.int .i64 0, .bool false, .bool false, .int .i64 0, .int .u8 0, .int .u8 0, .int .u8 0, .int .u8 0, .int .u8 0, .int .u8 0, .int .u8 0, .int .u8 0] (0, 0) _ rfl (put12 _ _ _ _ _ _ _ _ _ _ _ _ HP6.out.bk) Try.underlying24 rfl (by kernel_rfl)) rfl ?_
           exact ⟨rfl, below12 _ _ _ _ _ _ _ _ _ _ _ _ HP6.out.bel HP6.out.le0⟩
          ·
           rw [if_neg qe] at hm
           simp only [Option.bind_some, Option.getD_some, Option.some.injEq] at hm
           subst hm
           have qeb : (q13 != 0) = false := by simpa using qe
           clear qe
           go_wp2_with (first | (go_at_call 62; refine (take.calls w _ #[.int .i64 0, .bool false, .bool false, .int .i64 0, .int .u8 0, .int .u8 0, .int .u8 0, .int .u8 0, .int .u8 0, .int .u8 0, .int .u8 0, .int .u8 0] b0 b1 raw last run (rd l0 (k : Int)) 0 last' run' raw' HP.out HTK.out).mono ?_; rintro e wT ⟨rfl, hT⟩; have HP2 := Aside0.mk hT; clear hT; have zc0 : wT.cell? ⟨b0, 0, none⟩ = some (.int .i64 0) := (zqab HP2.out.bk 0).trans rfl; have zf0 := zqaa HP2.out.bk 0; have zc1 : wT.cell? ⟨b0, 1, none⟩ = some (.bool false) := (zqab HP2.out.bk 1).trans rfl; have zf1 := zqaa HP2.out.bk 1; have zc2 : wT.cell? ⟨b0, 2, none⟩ = some (.bool false) := (zqab HP2.out.bk 2).trans rfl; have zf2 := zqaa HP2.out.bk 2; have zc3 : wT.cell? ⟨b0, 3, none⟩ = some (.int .i64 0) := (zqab HP2.out.bk 3).trans rfl; have zf3 := zqaa HP2.out.bk 3; have zc4 : wT.cell? ⟨b0, 4, none⟩ = some (.int .u8 0) := (zqab HP2.out.bk 4).trans rfl; have zf4 := zqaa HP2.out.bk 4; have zc5 : wT.cell? ⟨b0, 5, none⟩ = some (.int .u8 0) := (zqab HP2.out.bk 5).trans rfl; have zf5 := zqaa HP2.out.bk 5; have zc6 : wT.cell? ⟨b0, 6, none⟩ = some (.int .u8 0) := (zqab HP2.out.bk 6).trans rfl; have zf6 := zqaa HP2.out.bk 6; have zc7 : wT.cell? ⟨b0, 7, none⟩ = some (.int .u8 0) := (zqab HP2.out.bk 7).trans rfl; have zf7 := zqaa HP2.out.bk 7; have zc8 : wT.cell? ⟨b0, 8, none⟩ = some (.int .u8 0) := (zqab HP2.out.bk 8).trans rfl; have zf8 := zqaa HP2.out.bk 8; have zc9 : wT.cell? ⟨b0, 9, none⟩ = some (.int .u8 0) := (zqab HP2.out.bk 9).trans rfl; have zf9 := zqaa HP2.out.bk 9; have zc10 : wT.cell? ⟨b0, 10, none⟩ = some (.int .u8 0) := (zqab HP2.out.bk 10).trans rfl; have zf10 := zqaa HP2.out.bk 10; have zc11 : wT.cell? ⟨b0, 11, none⟩ = some (.int .u8 0) := (zqab HP2.out.bk 11).trans rfl; have zf11 := zqaa HP2.out.bk 11) | (go_at_call 63; have hD0 := done.calls w _ #[.int .i64 0, .bool false, .bool false, .int .i64 0, .int .u8 0, .int .u8 0, .int .u8 0, .int .u8 0, .int .u8 0, .int .u8 0, .int .u8 0, .int .u8 0] b0 b1 raw' last' run' kd n er HP2.out HN.out; rw [hd9] at hD0; refine hD0.mono ?_; clear hD0; rintro e wD ⟨rfl, hD⟩; have HP3 := Aside0.mk hD; clear hD; obtain ⟨A3, c3, HF3, g30, g31, g32, f30, f31, f32⟩ := HP3.out.facts) | (go_at_call 29; refine (field_Frame.calls 1000 A3 c3 raw' q1 q2 q3 q4 q5 q6 q7 q8 q9 q10 q11 q12 q13 _ (Kd.R_reads' HF3.out.2).2.2 (Kd.R_reads' HF3.out.2).2.1 HFR.out).mono ?_; rintro e wF ⟨rfl, hb⟩; have HP4 := Aside0.mk (HP3.out.after hb); clear hb) | ((with_reducible refine zqar (N := 12) rfl ?_); refine zqav ?hg3 (N := 12) ?hd3 (cs := #[.int .i64 0, .bool false, .bool false, .int .i64 0, .int .u8 0, .int .u8 0, .int .u8 0, .int .u8 0, .int .u8 0, .int .u8 0, .int .u8 0, .int .u8 0]) (t := 24) ?hr3 ?_; (case hd3 => rfl); (case hg3 => rfl); (case hr3 => first | (go_simp; done) | (go_simp; rfl)); intro g eg wG hG hBG; have HG := Aside0.mk hG; have HBG := Aside0.mk hBG; have EG := Aside0.mk eg; clear hG hBG eg; have ncc0 : wG.cell? ⟨g, 0, none⟩ = some (.int .i64 0) := (zqab HG.out 0).trans rfl; have ncf0 := zqaa HG.out 0; have ncc1 : wG.cell? ⟨g, 1, none⟩ = some (.bool false) := (zqab HG.out 1).trans rfl; have ncf1 := zqaa HG.out 1; have ncc2 : wG.cell? ⟨g, 2, none⟩ = some (.bool false) := (zqab HG.out 2).trans rfl; have ncf2 := zqaa HG.out 2; have ncc3 : wG.cell? ⟨g, 3, none⟩ = some (.int .i64 0) := (zqab HG.out 3).trans rfl; have ncf3 := zqaa HG.out 3; have ncc4 : wG.cell? ⟨g, 4, none⟩ = some (.int .u8 0) := (zqab HG.out 4).trans rfl; have ncf4 := zqaa HG.out 4; have ncc5 : wG.cell? ⟨g, 5, none⟩ = some (.int .u8 0) := (zqab HG.out 5).trans rfl; have ncf5 := zqaa HG.out 5; have ncc6 : wG.cell? ⟨g, 6, none⟩ = some (.int .u8 0) := (zqab HG.out 6).trans rfl; have ncf6 := zqaa HG.out 6; have ncc7 : wG.cell? ⟨g, 7, none⟩ = some (.int .u8 0) := (zqab HG.out 7).trans rfl; have ncf7 := zqaa HG.out 7; have ncc8 : wG.cell? ⟨g, 8, none⟩ = some (.int .u8 0) := (zqab HG.out 8).trans rfl; have ncf8 := zqaa HG.out 8; have ncc9 : wG.cell? ⟨g, 9, none⟩ = some (.int .u8 0) := (zqab HG.out 9).trans rfl; have ncf9 := zqaa HG.out 9; have ncc10 : wG.cell? ⟨g, 10, none⟩ = some (.int .u8 0) := (zqab HG.out 10).trans rfl; have ncf10 := zqaa HG.out 10; have ncc11 : wG.cell? ⟨g, 11, none⟩ = some (.int .u8 0) := (zqab HG.out 11).trans rfl; have ncf11 := zqaa HG.out 11) | ((with_reducible refine zqau (t := 24) (p := 12) rfl ?_); refine zqap (t := 24) (p := 12) (v := ?vo12) (w1 := ((((((((((((wG.setCell ⟨g, 0, none⟩ (.int .i64 q1)).setCell ⟨g, 1, none⟩ (.bool q2)).setCell ⟨g, 2, none⟩ (.bool q3)).setCell ⟨g, 3, none⟩ (.int .i64 q4)).setCell ⟨g, 4, none⟩ (.int .u8 q5)).setCell ⟨g, 5, none⟩ (.int .u8 q6)).setCell ⟨g, 6, none⟩ (.int .u8 q7)).setCell ⟨g, 7, none⟩ (.int .u8 q8)).setCell ⟨g, 8, none⟩ (.int .u8 q9)).setCell ⟨g, 9, none⟩ (.int .u8 q10)).setCell ⟨g, 10, none⟩ (.int .u8 q11)).setCell ⟨g, 11, none⟩ (.int .u8 q12))) ?hg ?ho ?hn ?hr ?_; (case ho => rfl); (case hg => rfl); (case hn => rfl); (case hr => first | (go_simp; done) | (go_simp; rfl)); intro wH hw; have HGH := Aside0.mk (by rw [hw]; exact put12 _ _ _ _ _ _ _ _ _ _ _ _ HG.out : wH.heap[g]? = some (.cells #[.int .i64 q1, .bool q2, .bool q3, .int .i64 q4, .int .u8 q5, .int .u8 q6, .int .u8 q7, .int .u8 q8, .int .u8 q9, .int .u8 q10, .int .u8 q11, .int .u8 q12] 24 (0, 0))); have HP6 := Aside0.mk (HP4.out.after (by rw [hw]; exact below12 _ _ _ _ _ _ _ _ _ _ _ _ HBG.out (by rw [EG.out]; exact Nat.le_refl _)) : RdSt w #[.int .i64 0, .bool false, .bool false, .int .i64 0, .int .u8 0, .int .u8 0, .int .u8 0, .int .u8 0, .int .u8 0, .int .u8 0, .int .u8 0, .int .u8 0] b0 b1 wH raw' last' run'); clear hw; have mcc0 : wH.cell? ⟨g, 0, none⟩ = some (.int .i64 q1) := (zqab HGH.out 0).trans rfl; have mcf0 := zqaa HGH.out 0; have mcc1 : wH.cell? ⟨g, 1, none⟩ = some (.bool q2) := (zqab HGH.out 1).trans rfl; have mcf1 := zqaa HGH.out 1; have mcc2 : wH.cell? ⟨g, 2, none⟩ = some (.bool q3) := (zqab HGH.out 2).trans rfl; have mcf2 := zqaa HGH.out 2; have mcc3 : wH.cell? ⟨g, 3, none⟩ = some (.int .i64 q4) := (zqab HGH.out 3).trans rfl; have mcf3 := zqaa HGH.out 3; have mcc4 : wH.cell? ⟨g, 4, none⟩ = some (.int .u8 q5) := (zqab HGH.out 4).trans rfl; have mcf4 := zqaa HGH.out 4; have mcc5 : wH.cell? ⟨g, 5, none⟩ = some (.int .u8 q6) := (zqab HGH.out 5).trans rfl; have mcf5 := zqaa HGH.out 5; have mcc6 : wH.cell? ⟨g, 6, none⟩ = some (.int .u8 q7) := (zqab HGH.out 6).trans rfl; have mcf6 := zqaa HGH.out 6; have mcc7 : wH.cell? ⟨g, 7, none⟩ = some (.int .u8 q8) := (zqab HGH.out 7).trans rfl; have mcf7 := zqaa HGH.out 7; have mcc8 : wH.cell? ⟨g, 8, none⟩ = some (.int .u8 q9) := (zqab HGH.out 8).trans rfl; have mcf8 := zqaa HGH.out 8; have mcc9 : wH.cell? ⟨g, 9, none⟩ = some (.int .u8 q10) := (zqab HGH.out 9).trans rfl; have mcf9 := zqaa HGH.out 9; have mcc10 : wH.cell? ⟨g, 10, none⟩ = some (.int .u8 q11) := (zqab HGH.out 10).trans rfl; have mcf10 := zqaa HGH.out 10; have mcc11 : wH.cell? ⟨g, 11, none⟩ = some (.int .u8 q12) := (zqab HGH.out 11).trans rfl; have mcf11 := zqaa HGH.out 11; have zdc0 : wH.cell? ⟨b0, 0, none⟩ = some (.int .i64 0) := (zqab HP6.out.bk 0).trans rfl; have zdf0 := zqaa HP6.out.bk 0; have zdc1 : wH.cell? ⟨b0, 1, none⟩ = some (.bool false) := (zqab HP6.out.bk 1).trans rfl; have zdf1 := zqaa HP6.out.bk 1; have zdc2 : wH.cell? ⟨b0, 2, none⟩ = some (.bool false) := (zqab HP6.out.bk 2).trans rfl; have zdf2 := zqaa HP6.out.bk 2; have zdc3 : wH.cell? ⟨b0, 3, none⟩ = some (.int .i64 0) := (zqab HP6.out.bk 3).trans rfl; have zdf3 := zqaa HP6.out.bk 3; have zdc4 : wH.cell? ⟨b0, 4, none⟩ = some (.int .u8 0) := (zqab HP6.out.bk 4).trans rfl; have zdf4 := zqaa HP6.out.bk 4; have zdc5 : wH.cell? ⟨b0, 5, none⟩ = some (.int .u8 0) := (zqab HP6.out.bk 5).trans rfl; have zdf5 := zqaa HP6.out.bk 5; have zdc6 : wH.cell? ⟨b0, 6, none⟩ = some (.int .u8 0) := (zqab HP6.out.bk 6).trans rfl; have zdf6 := zqaa HP6.out.bk 6; have zdc7 : wH.cell? ⟨b0, 7, none⟩ = some (.int .u8 0) := (zqab HP6.out.bk 7).trans rfl; have zdf7 := zqaa HP6.out.bk 7; have zdc8 : wH.cell? ⟨b0, 8, none⟩ = some (.int .u8 0) := (zqab HP6.out.bk 8).trans rfl; have zdf8 := zqaa HP6.out.bk 8; have zdc9 : wH.cell? ⟨b0, 9, none⟩ = some (.int .u8 0) := (zqab HP6.out.bk 9).trans rfl; have zdf9 := zqaa HP6.out.bk 9; have zdc10 : wH.cell? ⟨b0, 10, none⟩ = some (.int .u8 0) := (zqab HP6.out.bk 10).trans rfl; have zdf10 := zqaa HP6.out.bk 10; have zdc11 : wH.cell? ⟨b0, 11, none⟩ = some (.int .u8 0) := (zqab HP6.out.bk 11).trans rfl; have zdf11 := zqaa HP6.out.bk 11))
           refine bodyPost_ret (zqbi rfl _ _ b0 24 #[.int .i64 q1, .bool q2, .bool q3, .int .i64 q4, .int .u8 q5, .int .u8 q6, .int .u8 q7, .int .u8 q8, .int .u8 q9, .int .u8 q10, .int .u8 q11, .int .u8 q12] (0, 0) _ rfl (put12 _ _ _ _ _ _ _ _ _ _ _ _ HP6.out.bk) Try.underlying24 rfl (by kernel_rfl)) rfl ?_
           exact ⟨rfl, below12 _ _ _ _ _ _ _ _ _ _ _ _ HP6.out.bel HP6.out.le0⟩
        ·
         rw [if_neg d9] at hm
         have hd9 : decide (er = 0 ∧ kd = 9) = false := decide_eq_false d9
         clear d9
         have HM2 := Aside0.mk hm
         clear hm
         go_wp2_with (first | (go_at_call 62; refine (take.calls w _ #[.int .i64 0, .bool false, .bool false, .int .i64 0, .int .u8 0, .int .u8 0, .int .u8 0, .int .u8 0, .int .u8 0, .int .u8 0, .int .u8 0, .int .u8 0] b0 b1 raw last run (rd l0 (k : Int)) 0 last' run' raw' HP.out HTK.out).mono ?_; rintro e wT ⟨rfl, hT⟩; have HP2 := Aside0.mk hT; clear hT; have zc0 : wT.cell? ⟨b0, 0, none⟩ = some (.int .i64 0) := (zqab HP2.out.bk 0).trans rfl; have zf0 := zqaa HP2.out.bk 0; have zc1 : wT.cell? ⟨b0, 1, none⟩ = some (.bool false) := (zqab HP2.out.bk 1).trans rfl; have zf1 := zqaa HP2.out.bk 1; have zc2 : wT.cell? ⟨b0, 2, none⟩ = some (.bool false) := (zqab HP2.out.bk 2).trans rfl; have zf2 := zqaa HP2.out.bk 2; have zc3 : wT.cell? ⟨b0, 3, none⟩ = some (.int .i64 0) := (zqab HP2.out.bk 3).trans rfl; have zf3 := zqaa HP2.out.bk 3; have zc4 : wT.cell? ⟨b0, 4, none⟩ = some (.int .u8 0) := (zqab HP2.out.bk 4).trans rfl; have zf4 := zqaa HP2.out.bk 4; have zc5 : wT.cell? ⟨b0, 5, none⟩ = some (.int .u8 0) := (zqab HP2.out.bk 5).trans rfl; have zf5 := zqaa HP2.out.bk 5; have zc6 : wT.cell? ⟨b0, 6, none⟩ = some (.int .u8 0) := (zqab HP2.out.bk 6).trans rfl; have zf6 := zqaa HP2.out.bk 6; have zc7 : wT.cell? ⟨b0, 7, none⟩ = some (.int .u8 0) := (zqab HP2.out.bk 7).trans rfl; have zf7 := zqaa HP2.out.bk 7; have zc8 : wT.cell? ⟨b0, 8, none⟩ = some (.int .u8 0) := (zqab HP2.out.bk 8).trans rfl; have zf8 := zqaa HP2.out.bk 8; have zc9 : wT.cell? ⟨b0, 9, none⟩ = some (.int .u8 0) := (zqab HP2.out.bk 9).trans rfl; have zf9 := zqaa HP2.out.bk 9; have zc10 : wT.cell? ⟨b0, 10, none⟩ = some (.int .u8 0) := (zqab HP2.out.bk 10).trans rfl; have zf10 := zqaa HP2.out.bk 10; have zc11 : wT.cell? ⟨b0, 11, none⟩ = some (.int .u8 0) := (zqab HP2.out.bk 11).trans rfl; have zf11 := zqaa HP2.out.bk 11) | (go_at_call 63; have hD0 := done.calls w _ #[.int .i64 0, .bool false, .bool false, .int .i64 0, .int .u8 0, .int .u8 0, .int .u8 0, .int .u8 0, .int .u8 0, .int .u8 0, .int .u8 0, .int .u8 0] b0 b1 raw' last' run' kd n er HP2.out HN.out; rw [hd9] at hD0; refine hD0.mono ?_; clear hD0; rintro e wD ⟨rfl, hD⟩; have HP3 := Aside0.mk hD; clear hD; obtain ⟨A3, c3, HF3, g30, g31, g32, f30, f31, f32⟩ := HP3.out.facts))
         exact ⟨⟨k + 1, raw', last', run', by omega, by go_num, ⟨by rw [show ((k + 1 : Nat) : Int) = (k : Int) + 1 from by omega]; exact HM2.out⟩, HP3⟩, dec_meas hlt hk1⟩
    ·
     have hks : k = ST := by omega
     subst hks
     have hm := HM.out
     clear HM
     rw [List.drop_eq_nil_of_le (by rw [List.length_take]; omega), decL] at hm
     simp only [Option.bind_some, Option.getD_none, Option.some.injEq] at hm
     have hltb : decide ((k : Int) < (k : Int)) = false := decide_eq_false (by omega)
     have zc0 : wr.cell? ⟨b0, 0, none⟩ = some (.int .i64 0) := (zqab HP.out.bk 0).trans rfl
     have zf0 := zqaa HP.out.bk 0
     have zc1 : wr.cell? ⟨b0, 1, none⟩ = some (.bool false) := (zqab HP.out.bk 1).trans rfl
     have zf1 := zqaa HP.out.bk 1
     have zc2 : wr.cell? ⟨b0, 2, none⟩ = some (.bool false) := (zqab HP.out.bk 2).trans rfl
     have zf2 := zqaa HP.out.bk 2
     have zc3 : wr.cell? ⟨b0, 3, none⟩ = some (.int .i64 0) := (zqab HP.out.bk 3).trans rfl
     have zf3 := zqaa HP.out.bk 3
     have zc4 : wr.cell? ⟨b0, 4, none⟩ = some (.int .u8 0) := (zqab HP.out.bk 4).trans rfl
     have zf4 := zqaa HP.out.bk 4
     have zc5 : wr.cell? ⟨b0, 5, none⟩ = some (.int .u8 0) := (zqab HP.out.bk 5).trans rfl
     have zf5 := zqaa HP.out.bk 5
     have zc6 : wr.cell? ⟨b0, 6, none⟩ = some (.int .u8 0) := (zqab HP.out.bk 6).trans rfl
     have zf6 := zqaa HP.out.bk 6
     have zc7 : wr.cell? ⟨b0, 7, none⟩ = some (.int .u8 0) := (zqab HP.out.bk 7).trans rfl
     have zf7 := zqaa HP.out.bk 7
     have zc8 : wr.cell? ⟨b0, 8, none⟩ = some (.int .u8 0) := (zqab HP.out.bk 8).trans rfl
     have zf8 := zqaa HP.out.bk 8
     have zc9 : wr.cell? ⟨b0, 9, none⟩ = some (.int .u8 0) := (zqab HP.out.bk 9).trans rfl
     have zf9 := zqaa HP.out.bk 9
     have zc10 : wr.cell? ⟨b0, 10, none⟩ = some (.int .u8 0) := (zqab HP.out.bk 10).trans rfl
     have zf10 := zqaa HP.out.bk 10
     have zc11 : wr.cell? ⟨b0, 11, none⟩ = some (.int .u8 0) := (zqab HP.out.bk 11).trans rfl
     have zf11 := zqaa HP.out.bk 11
     by_cases hsl : k < l0.length
     ·
      rw [if_pos hsl] at hm
      subst hm
      have hsb : decide ((k : Int) < (l0.length : Int)) = true := decide_eq_true (by omega)
      go_wp2
      refine bodyPost_ret (zqbi rfl _ _ b0 24 #[.int .i64 0, .bool false, .bool false, .int .i64 0, .int .u8 0, .int .u8 0, .int .u8 0, .int .u8 0, .int .u8 0, .int .u8 0, .int .u8 0, .int .u8 0] (0, 0) _ rfl (put12 _ _ _ _ _ _ _ _ _ _ _ _ HP.out.bk) Try.underlying24 rfl (by kernel_rfl)) rfl ?_
      exact ⟨rfl, below12 _ _ _ _ _ _ _ _ _ _ _ _ HP.out.bel HP.out.le0⟩
     ·
      rw [if_neg hsl] at hm
      subst hm
      have hsb : decide ((k : Int) < (l0.length : Int)) = false := decide_eq_false (by omega)
      go_wp2
      refine bodyPost_ret (zqbi rfl _ _ b0 24 #[.int .i64 0, .bool false, .bool false, .int .i64 0, .int .u8 0, .int .u8 0, .int .u8 0, .int .u8 0, .int .u8 0, .int .u8 0, .int .u8 0, .int .u8 0] (0, 0) _ rfl (put12 _ _ _ _ _ _ _ _ _ _ _ _ HP.out.bk) Try.underlying24 rfl (by kernel_rfl)) rfl ?_
      exact ⟨rfl, below12 _ _ _ _ _ _ _ _ _ _ _ _ HP.out.bel HP.out.le0⟩
  ·
   have hck2 : decide (0 ≤ chk l0 0) = false := decide_eq_false (by omega)
   have hst : decStop l0 = l0.length := by unfold decStop; rw [if_neg hck]
   rw [hst] at hct HSZ HH
   clear hck hst
   go_enter Try.func35, Try.ntmps35
   go_wp2_with (first | ((with_reducible refine zqar (N := 2) rfl ?_); refine zqav ?hg1 (N := 2) ?hd1 (cs := #[.int .i64 0, .bool false, .bool false, .int .i64 0, .int .u8 0, .int .u8 0, .int .u8 0, .int .u8 0, .int .u8 0, .int .u8 0, .int .u8 0, .int .u8 0]) (t := 24) ?hr1 ?_; (case hd1 => rfl); (case hg1 => rfl); (case hr1 => first | (go_simp; done) | (go_simp; rfl)); intro b0 eb0 wA hA hBA; have HA := Aside0.mk hA; have HBA := Aside0.mk hBA; have EB0 := Aside0.mk eb0; clear hA hBA eb0) | ((with_reducible refine zqar (N := 5) rfl ?_); refine zqav ?hg2 (N := 5) ?hd2 (cs := #[.slice none 0 0, .int .i64 0, .int .i64 0]) (t := 80) ?hr2 ?_; (case hd2 => rfl); (case hg2 => rfl); (case hr2 => first | (go_simp; done) | (go_simp; rfl)); intro b1 eb1 wB hB hBB; have HP0 := Aside0.mk (RdSt.start EB0.out HA.out HBA.out eb1 hB hBB); clear eb1 hB hBB) | (go_at_call 53; refine (bits_Check.calls A0 c0 l0 (chk l0 0) _ (Kd.C_below HR0.out HP0.out.bel) HC0.out rfl).mono ?_; rintro e wC ⟨rfl, hd⟩; have HP1 := Aside0.mk (HP0.out.after hd.below); clear hd))
   go_loopw [26] (fun i wr => ∃ (k : Nat) (raw : List Int) (last run : Int), k ≤ l0.length ∧ i = .int .i64 (k : Int) ∧ Aside0 ((decL ((l0.take l0.length).drop k) (k : Int) raw last run).bind (fun o => some (o.getD (if l0.length < l0.length then (0, false, false, 0, 0, 0, 0, 0, 0, 0, 0, 0, (l0.length : Int), 10) else (0, false, false, 0, 0, 0, 0, 0, 0, 0, 0, 0, (l0.length : Int), 13)))) = some res) ∧ Aside0 (RdSt w #[.int .i64 0, .bool false, .bool false, .int .i64 0, .int .u8 0, .int .u8 0, .int .u8 0, .int .u8 0, .int .u8 0, .int .u8 0, .int .u8 0, .int .u8 0] b0 b1 wr raw last run)) (fun i _ => l0.length - (intOf i).toNat)
   case atStart => exact ⟨0, [], 0, 0, Nat.zero_le _, rfl, ⟨by rw [List.drop_zero]; exact HH.out⟩, HP1⟩
   case round =>
    clear HH
    obtain ⟨k, raw, last, run, hk, rfl, HM, HP⟩ := hrel
    by_cases hlt : k < l0.length
    ·
     have hm := HM.out
     clear HM
     have hlen : (l0.take l0.length).length = l0.length := by rw [List.length_take]; have := HSZ.out; omega
     have hkb : k < (l0.take l0.length).length := by omega
     have hkl : k < l0.length := by have := HSZ.out; omega
     rw [List.drop_eq_getElem_cons hkb, decL] at hm
     have hbe : (l0.take l0.length)[k] = rd l0 (k : Int) := by rw [List.getElem_take]; simp [rd, List.getD_eq_getElem?_getD, List.getElem?_eq_getElem hkl]
     rw [hbe] at hm
     obtain ⟨ad, e, hx⟩ := Kd.at_int (Kd.C_below HR0.out HP.out.bel) (k : Int) (by omega) (by omega)
     cases e
     rw [Int.toNat_natCast] at hx
     have hltb : decide ((k : Int) < (l0.length : Int)) = true := decide_eq_true (by omega)
     have hk1 : wrap64 ((k : Int) + 1) = (k : Int) + 1 := by unfold wrap64; have := HSZ.out; omega
     clear hlen hkb hbe
     cases ht : takeF raw last run (rd l0 (k : Int)) with
     | none => rw [ht] at hm; exact absurd hm (by simp)
     | some u =>
      obtain ⟨r, raw', last', run'⟩ := u
      rw [ht] at hm
      simp only [Option.bind_some] at hm
      have HTK := Aside0.mk ht
      clear ht
      by_cases r0 : r ≠ 0
      ·
       rw [if_pos r0] at hm
       simp only [Option.bind_some, Option.getD_some, Option.some.injEq] at hm
       subst hm
       have r0b : (r != 0) = true := bne_iff_ne.mpr r0
       clear r0
       go_wp2_with (first | (go_at_call 62; refine (take.calls w _ #[.int .i64 0, .bool false, .bool false, .int .i64 0, .int .u8 0, .int .u8 0, .int .u8 0, .int .u8 0, .int .u8 0, .int .u8 0, .int .u8 0, .int .u8 0] b0 b1 raw last run (rd l0 (k : Int)) r last' run' raw' HP.out HTK.out).mono ?_; rintro e wT ⟨rfl, hT⟩; have HP2 := Aside0.mk hT; clear hT; have zc0 : wT.cell? ⟨b0, 0, none⟩ = some (.int .i64 0) := (zqab HP2.out.bk 0).trans rfl; have zf0 := zqaa HP2.out.bk 0; have zc1 : wT.cell? ⟨b0, 1, none⟩ = some (.bool false) := (zqab HP2.out.bk 1).trans rfl; have zf1 := zqaa HP2.out.bk 1; have zc2 : wT.cell? ⟨b0, 2, none⟩ = some (.bool false) := (zqab HP2.out.bk 2).trans rfl; have zf2 := zqaa HP2.out.bk 2; have zc3 : wT.cell? ⟨b0, 3, none⟩ = some (.int .i64 0) := (zqab HP2.out.bk 3).trans rfl; have zf3 := zqaa HP2.out.bk 3; have zc4 : wT.cell? ⟨b0, 4, none⟩ = some (.int .u8 0) := (zqab HP2.out.bk 4).trans rfl; have zf4 := zqaa HP2.out.bk 4; have zc5 : wT.cell? ⟨b0, 5, none⟩ = some (.int .u8 0) := (zqab HP2.out.bk 5).trans rfl; have zf5 := zqaa HP2.out.bk 5; have zc6 : wT.cell? ⟨b0, 6, none⟩ = some (.int .u8 0) := (zqab HP2.out.bk 6).trans rfl; have zf6 := zqaa HP2.out.bk 6; have zc7 : wT.cell? ⟨b0, 7, none⟩ = some (.int .u8 0) := (zqab HP2.out.bk 7).trans rfl; have zf7 := zqaa HP2.out.bk 7; have zc8 : wT.cell? ⟨b0, 8, none⟩ = some (.int .u8 0) := (zqab HP2.out.bk 8).trans rfl; have zf8 := zqaa HP2.out.bk 8; have zc9 : wT.cell? ⟨b0, 9, none⟩ = some (.int .u8 0) := (zqab HP2.out.bk 9).trans rfl; have zf9 := zqaa HP2.out.bk 9; have zc10 : wT.cell? ⟨b0, 10, none⟩ = some (.int .u8 0) := (zqab HP2.out.bk 10).trans rfl; have zf10 := zqaa HP2.out.bk 10; have zc11 : wT.cell? ⟨b0, 11, none⟩ = some (.int .u8 0) := (zqab HP2.out.bk 11).trans rfl; have zf11 := zqaa HP2.out.bk 11))
       refine bodyPost_ret (zqbi rfl _ _ b0 24 #[.int .i64 0, .bool false, .bool false, .int .i64 0, .int .u8 0, .int .u8 0, .int .u8 0, .int .u8 0, .int .u8 0, .int .u8 0, .int .u8 0, .int .u8 0] (0, 0) _ rfl (put12 _ _ _ _ _ _ _ _ _ _ _ _ HP2.out.bk) Try.underlying24 rfl (by kernel_rfl)) rfl ?_
       exact ⟨rfl, below12 _ _ _ _ _ _ _ _ _ _ _ _ HP2.out.bel HP2.out.le0⟩
      ·
       obtain rfl : r = 0 := by simpa using r0
       rw [if_neg r0] at hm
       clear r0
       cases hn : field_Next.f raw' with
       | none => rw [hn] at hm; exact absurd hm (by simp)
       | some q =>
        obtain ⟨kd, n, er⟩ := q
        rw [hn] at hm
        simp only [Option.bind_some] at hm
        have HN := Aside0.mk hn
        clear hn
        by_cases d9 : er = 0 ∧ kd = 9
        ·
         rw [if_pos d9] at hm
         have hd9 : decide (er = 0 ∧ kd = 9) = true := decide_eq_true d9
         clear d9
         cases hf : field_Frame.f 1000 raw' with
         | none => rw [hf] at hm; exact absurd hm (by simp)
         | some q =>
          obtain ⟨q1, q2, q3, q4, q5, q6, q7, q8, q9, q10, q11, q12, q13⟩ := q
          rw [hf] at hm
          simp only [Option.bind_some] at hm
          have HFR := Aside0.mk hf
          clear hf
          by_cases qe : q13 ≠ 0
          ·
           rw [if_pos qe] at hm
           simp only [Option.bind_some, Option.getD_some, Option.some.injEq] at hm
           subst hm
           have qeb : (q13 != 0) = true := bne_iff_ne.mpr qe
           clear qe
           go_wp2_with (first | (go_at_call 62; refine (take.calls w _ #[.int .i64 0, .bool false, .bool false, .int .i64 0, .int .u8 0, .int .u8 0, .int .u8 0, .int .u8 0, .int .u8 0, .int .u8 0, .int .u8 0, .int .u8 0] b0 b1 raw last run (rd l0 (k : Int)) 0 last' run' raw' HP.out HTK.out).mono ?_; rintro e wT ⟨rfl, hT⟩; have HP2 := Aside0.mk hT; clear hT; have zc0 : wT.cell? ⟨b0, 0, none⟩ = some (.int .i64 0) := (zqab HP2.out.bk 0).trans rfl; have zf0 := zqaa HP2.out.bk 0; have zc1 : wT.cell? ⟨b0, 1, none⟩ = some (.bool false) := (zqab HP2.out.bk 1).trans rfl; have zf1 := zqaa HP2.out.bk 1; have zc2 : wT.cell? ⟨b0, 2, none⟩ = some (.bool false) := (zqab HP2.out.bk 2).trans rfl; have zf2 := zqaa HP2.out.bk 2; have zc3 : wT.cell? ⟨b0, 3, none⟩ = some (.int .i64 0) := (zqab HP2.out.bk 3).trans rfl; have zf3 := zqaa HP2.out.bk 3; have zc4 : wT.cell? ⟨b0, 4, none⟩ = some (.int .u8 0) := (zqab HP2.out.bk 4).trans rfl; have zf4 := zqaa HP2.out.bk 4; have zc5 : wT.cell? ⟨b0, 5, none⟩ = some (.int .u8 0) := (zqab HP2.out.bk 5).trans rfl; have zf5 := zqaa HP2.out.bk 5; have zc6 : wT.cell? ⟨b0, 6, none⟩ = some (.int .u8 0) := (zqab HP2.out.bk 6).trans rfl; have zf6 := zqaa HP2.out.bk 6; have zc7 : wT.cell? ⟨b0, 7, none⟩ = some (.int .u8 0) := (zqab HP2.out.bk 7).trans rfl; have zf7 := zqaa HP2.out.bk 7; have zc8 : wT.cell? ⟨b0, 8, none⟩ = some (.int .u8 0) := (zqab HP2.out.bk 8).trans rfl; have zf8 := zqaa HP2.out.bk 8; have zc9 : wT.cell? ⟨b0, 9, none⟩ = some (.int .u8 0) := (zqab HP2.out.bk 9).trans rfl; have zf9 := zqaa HP2.out.bk 9; have zc10 : wT.cell? ⟨b0, 10, none⟩ = some (.int .u8 0) := (zqab HP2.out.bk 10).trans rfl; have zf10 := zqaa HP2.out.bk 10; have zc11 : wT.cell? ⟨b0, 11, none⟩ = some (.int .u8 0) := (zqab HP2.out.bk 11).trans rfl; have zf11 := zqaa HP2.out.bk 11) | (go_at_call 63; have hD0 := done.calls w _ #[.int .i64 0, .bool false, .bool false, .int .i64 0, .int .u8 0, .int .u8 0, .int .u8 0, .int .u8 0, .int .u8 0, .int .u8 0, .int .u8 0, .int .u8 0] b0 b1 raw' last' run' kd n er HP2.out HN.out; rw [hd9] at hD0; refine hD0.mono ?_; clear hD0; rintro e wD ⟨rfl, hD⟩; have HP3 := Aside0.mk hD; clear hD; obtain ⟨A3, c3, HF3, g30, g31, g32, f30, f31, f32⟩ := HP3.out.facts) | (go_at_call 29; refine (field_Frame.calls 1000 A3 c3 raw' q1 q2 q3 q4 q5 q6 q7 q8 q9 q10 q11 q12 q13 _ (Kd.R_reads' HF3.out.2).2.2 (Kd.R_reads' HF3.out.2).2.1 HFR.out).mono ?_; rintro e wF ⟨rfl, hb⟩; have HP4 := Aside0.mk (HP3.out.after hb); clear hb) | ((with_reducible refine zqar (N := 12) rfl ?_); refine zqav ?hg3 (N := 12) ?hd3 (cs := #[.int .i64 0, .bool false, .bool false, .int .i64 0, .int .u8 0, .int .u8 0, .int .u8 0, .int .u8 0, .int .u8 0, .int .u8 0, .int .u8 0, .int .u8 0]) (t := 24) ?hr3 ?_; (case hd3 => rfl); (case hg3 => rfl); (case hr3 => first | (go_simp; done) | (go_simp; rfl)); intro g eg wG hG hBG; have HG := Aside0.mk hG; have HBG := Aside0.mk hBG; have EG := Aside0.mk eg; clear hG hBG eg; have ncc0 : wG.cell? ⟨g, 0, none⟩ = some (.int .i64 0) := (zqab HG.out 0).trans rfl; have ncf0 := zqaa HG.out 0; have ncc1 : wG.cell? ⟨g, 1, none⟩ = some (.bool false) := (zqab HG.out 1).trans rfl; have ncf1 := zqaa HG.out 1; have ncc2 : wG.cell? ⟨g, 2, none⟩ = some (.bool false) := (zqab HG.out 2).trans rfl; have ncf2 := zqaa HG.out 2; have ncc3 : wG.cell? ⟨g, 3, none⟩ = some (.int .i64 0) := (zqab HG.out 3).trans rfl; have ncf3 := zqaa HG.out 3; have ncc4 : wG.cell? ⟨g, 4, none⟩ = some (.int .u8 0) := (zqab HG.out 4).trans rfl; have ncf4 := zqaa HG.out 4; have ncc5 : wG.cell? ⟨g, 5, none⟩ = some (.int .u8 0) := (zqab HG.out 5).trans rfl; have ncf5 := zqaa HG.out 5; have ncc6 : wG.cell? ⟨g, 6, none⟩ = some (.int .u8 0) := (zqab HG.out 6).trans rfl; have ncf6 := zqaa HG.out 6; have ncc7 : wG.cell? ⟨g, 7, none⟩ = some (.int .u8 0) := (zqab HG.out 7).trans rfl; have ncf7 := zqaa HG.out 7; have ncc8 : wG.cell? ⟨g, 8, none⟩ = some (.int .u8 0) := (zqab HG.out 8).trans rfl; have ncf8 := zqaa HG.out 8; have ncc9 : wG.cell? ⟨g, 9, none⟩ = some (.int .u8 0) := (zqab HG.out 9).trans rfl; have ncf9 := zqaa HG.out 9; have ncc10 : wG.cell? ⟨g, 10, none⟩ = some (.int .u8 0) := (zqab HG.out 10).trans rfl; have ncf10 := zqaa HG.out 10; have ncc11 : wG.cell? ⟨g, 11, none⟩ = some (.int .u8 0) := (zqab HG.out 11).trans rfl; have ncf11 := zqaa HG.out 11) | ((with_reducible refine zqau (t := 24) (p := 12) rfl ?_); refine zqap (t := 24) (p := 12) (v := ?vo12) (w1 := ((((((((((((wG.setCell ⟨g, 0, none⟩ (.int .i64 q1)).setCell ⟨g, 1, none⟩ (.bool q2)).setCell ⟨g, 2, none⟩ (.bool q3)).setCell ⟨g, 3, none⟩ (.int .i64 q4)).setCell ⟨g, 4, none⟩ (.int .u8 q5)).setCell ⟨g, 5, none⟩ (.int .u8 q6)).setCell ⟨g, 6, none⟩ (.int .u8 q7)).setCell ⟨g, 7, none⟩ (.int .u8 q8)).setCell ⟨g, 8, none⟩ (.int .u8 q9)).setCell ⟨g, 9, none⟩ (.int .u8 q10)).setCell ⟨g, 10, none⟩ (.int .u8 q11)).setCell ⟨g, 11, none⟩ (.int .u8 q12))) ?hg ?ho ?hn ?hr ?_; (case ho => rfl); (case hg => rfl); (case hn => rfl); (case hr => first | (go_simp; done) | (go_simp; rfl)); intro wH hw; have HGH := Aside0.mk (by rw [hw]; exact put12 _ _ _ _ _ _ _ _ _ _ _ _ HG.out : wH.heap[g]? = some (.cells #[.int .i64 q1, .bool q2, .bool q3, .int .i64 q4, .int .u8 q5, .int .u8 q6, .int .u8 q7, .int .u8 q8, .int .u8 q9, .int .u8 q10, .int .u8 q11, .int .u8 q12] 24 (0, 0))); have HP6 := Aside0.mk (HP4.out.after (by rw [hw]; exact below12 _ _ _ _ _ _ _ _ _ _ _ _ HBG.out (by rw [EG.out]; exact Nat.le_refl _)) : RdSt w #[.int .i64 0, .bool false, .bool false, .int .i64 0, .int .u8 0, .int .u8 0, .int .u8 0, .int .u8 0, .int .u8 0, .int .u8 0, .int .u8 0, .int .u8 0] b0 b1 wH raw' last' run'); clear hw; have mcc0 : wH.cell? ⟨g, 0, none⟩ = some (.int .i64 q1) := (zqab HGH.out 0).trans rfl; have mcf0 := zqaa HGH.out 0; have mcc1 : wH.cell? ⟨g, 1, none⟩ = some (.bool q2) := (zqab HGH.out 1).trans rfl; have mcf1 := zqaa HGH.out 1; have mcc2 : wH.cell? ⟨g, 2, none⟩ = some (.bool q3) := (zqab HGH.out 2).trans rfl; have mcf2 := zqaa HGH.out 2; have mcc3 : wH.cell? ⟨g, 3, none⟩ = some (.int .i64 q4) := (zqab HGH.out 3).trans rfl; have mcf3 := zqaa HGH.out 3; have mcc4 : wH.cell? ⟨g, 4, none⟩ = some (.int .u8 q5) := (zqab HGH.out 4).trans rfl; have mcf4 := zqaa HGH.out 4; have mcc5 : wH.cell? ⟨g, 5, none⟩ = some (.int .u8 q6) := (zqab HGH.out 5).trans rfl; have mcf5 := zqaa HGH.out 5; have mcc6 : wH.cell? ⟨g, 6, none⟩ = some (.int .u8 q7) := (zqab HGH.out 6).trans rfl; have mcf6 := zqaa HGH.out 6; have mcc7 : wH.cell? ⟨g, 7, none⟩ = some (.int .u8 q8) := (zqab HGH.out 7).trans rfl; have mcf7 := zqaa HGH.out 7; have mcc8 : wH.cell? ⟨g, 8, none⟩ = some (.int .u8 q9) := (zqab HGH.out 8).trans rfl; have mcf8 := zqaa HGH.out 8; have mcc9 : wH.cell? ⟨g, 9, none⟩ = some (.int .u8 q10) := (zqab HGH.out 9).trans rfl; have mcf9 := zqaa HGH.out 9; have mcc10 : wH.cell? ⟨g, 10, none⟩ = some (.int .u8 q11) := (zqab HGH.out 10).trans rfl; have mcf10 := zqaa HGH.out 10; have mcc11 : wH.cell? ⟨g, 11, none⟩ = some (.int .u8 q12) := (zqab HGH.out 11).trans rfl; have mcf11 := zqaa HGH.out 11; have zdc0 : wH.cell? ⟨b0, 0, none⟩ = some (.int .i64 0) := (zqab HP6.out.bk 0).trans rfl; have zdf0 := zqaa HP6.out.bk 0; have zdc1 : wH.cell? ⟨b0, 1, none⟩ = some (.bool false) := (zqab HP6.out.bk 1).trans rfl; have zdf1 := zqaa HP6.out.bk 1; have zdc2 : wH.cell? ⟨b0, 2, none⟩ = some (.bool false) := (zqab HP6.out.bk 2).trans rfl; have zdf2 := zqaa HP6.out.bk 2; have zdc3 : wH.cell? ⟨b0, 3, none⟩ = some (.int .i64 0) := (zqab HP6.out.bk 3).trans rfl; have zdf3 := zqaa HP6.out.bk 3; have zdc4 : wH.cell? ⟨b0, 4, none⟩ = some (.int .u8 0) := (zqab HP6.out.bk 4).trans rfl; have zdf4 := zqaa HP6.out.bk 4; have zdc5 : wH.cell? ⟨b0, 5, none⟩ = some (.int .u8 0) := (zqab HP6.out.bk 5).trans rfl; have zdf5 := zqaa HP6.out.bk 5; have zdc6 : wH.cell? ⟨b0, 6, none⟩ = some (.int .u8 0) := (zqab HP6.out.bk 6).trans rfl; have zdf6 := zqaa HP6.out.bk 6; have zdc7 : wH.cell? ⟨b0, 7, none⟩ = some (.int .u8 0) := (zqab HP6.out.bk 7).trans rfl; have zdf7 := zqaa HP6.out.bk 7; have zdc8 : wH.cell? ⟨b0, 8, none⟩ = some (.int .u8 0) := (zqab HP6.out.bk 8).trans rfl; have zdf8 := zqaa HP6.out.bk 8; have zdc9 : wH.cell? ⟨b0, 9, none⟩ = some (.int .u8 0) := (zqab HP6.out.bk 9).trans rfl; have zdf9 := zqaa HP6.out.bk 9; have zdc10 : wH.cell? ⟨b0, 10, none⟩ = some (.int .u8 0) := (zqab HP6.out.bk 10).trans rfl; have zdf10 := zqaa HP6.out.bk 10; have zdc11 : wH.cell? ⟨b0, 11, none⟩ = some (.int .u8 0) := (zqab HP6.out.bk 11).trans rfl; have zdf11 := zqaa HP6.out.bk 11))
           refine bodyPost_ret (zqbi rfl _ _ b0 24 #[.int .i64 0, .bool false, .bool false, .int .i64 0, .int .u8 0, .int .u8 0, .int .u8 0, .int .u8 0, .int .u8 0, .int .u8 0, .int .u8 0, .int .u8 0] (0, 0) _ rfl (put12 _ _ _ _ _ _ _ _ _ _ _ _ HP6.out.bk) Try.underlying24 rfl (by kernel_rfl)) rfl ?_
           exact ⟨rfl, below12 _ _ _ _ _ _ _ _ _ _ _ _ HP6.out.bel HP6.out.le0⟩
          ·
           rw [if_neg qe] at hm
           simp only [Option.bind_some, Option.getD_some, Option.some.injEq] at hm
           subst hm
           have qeb : (q13 != 0) = false := by simpa using qe
           clear qe
           go_wp2_with (first | (go_at_call 62; refine (take.calls w _ #[.int .i64 0, .bool false, .bool false, .int .i64 0, .int .u8 0, .int .u8 0, .int .u8 0, .int .u8 0, .int .u8 0, .int .u8 0, .int .u8 0, .int .u8 0] b0 b1 raw last run (rd l0 (k : Int)) 0 last' run' raw' HP.out HTK.out).mono ?_; rintro e wT ⟨rfl, hT⟩; have HP2 := Aside0.mk hT; clear hT; have zc0 : wT.cell? ⟨b0, 0, none⟩ = some (.int .i64 0) := (zqab HP2.out.bk 0).trans rfl; have zf0 := zqaa HP2.out.bk 0; have zc1 : wT.cell? ⟨b0, 1, none⟩ = some (.bool false) := (zqab HP2.out.bk 1).trans rfl; have zf1 := zqaa HP2.out.bk 1; have zc2 : wT.cell? ⟨b0, 2, none⟩ = some (.bool false) := (zqab HP2.out.bk 2).trans rfl; have zf2 := zqaa HP2.out.bk 2; have zc3 : wT.cell? ⟨b0, 3, none⟩ = some (.int .i64 0) := (zqab HP2.out.bk 3).trans rfl; have zf3 := zqaa HP2.out.bk 3; have zc4 : wT.cell? ⟨b0, 4, none⟩ = some (.int .u8 0) := (zqab HP2.out.bk 4).trans rfl; have zf4 := zqaa HP2.out.bk 4; have zc5 : wT.cell? ⟨b0, 5, none⟩ = some (.int .u8 0) := (zqab HP2.out.bk 5).trans rfl; have zf5 := zqaa HP2.out.bk 5; have zc6 : wT.cell? ⟨b0, 6, none⟩ = some (.int .u8 0) := (zqab HP2.out.bk 6).trans rfl; have zf6 := zqaa HP2.out.bk 6; have zc7 : wT.cell? ⟨b0, 7, none⟩ = some (.int .u8 0) := (zqab HP2.out.bk 7).trans rfl; have zf7 := zqaa HP2.out.bk 7; have zc8 : wT.cell? ⟨b0, 8, none⟩ = some (.int .u8 0) := (zqab HP2.out.bk 8).trans rfl; have zf8 := zqaa HP2.out.bk 8; have zc9 : wT.cell? ⟨b0, 9, none⟩ = some (.int .u8 0) := (zqab HP2.out.bk 9).trans rfl; have zf9 := zqaa HP2.out.bk 9; have zc10 : wT.cell? ⟨b0, 10, none⟩ = some (.int .u8 0) := (zqab HP2.out.bk 10).trans rfl; have zf10 := zqaa HP2.out.bk 10; have zc11 : wT.cell? ⟨b0, 11, none⟩ = some (.int .u8 0) := (zqab HP2.out.bk 11).trans rfl; have zf11 := zqaa HP2.out.bk 11) | (go_at_call 63; have hD0 := done.calls w _ #[.int .i64 0, .bool false, .bool false, .int .i64 0, .int .u8 0, .int .u8 0, .int .u8 0, .int .u8 0, .int .u8 0, .int .u8 0, .int .u8 0, .int .u8 0] b0 b1 raw' last' run' kd n er HP2.out HN.out; rw [hd9] at hD0; refine hD0.mono ?_; clear hD0; rintro e wD ⟨rfl, hD⟩; have HP3 := Aside0.mk hD; clear hD; obtain ⟨A3, c3, HF3, g30, g31, g32, f30, f31, f32⟩ := HP3.out.facts) | (go_at_call 29; refine (field_Frame.calls 1000 A3 c3 raw' q1 q2 q3 q4 q5 q6 q7 q8 q9 q10 q11 q12 q13 _ (Kd.R_reads' HF3.out.2).2.2 (Kd.R_reads' HF3.out.2).2.1 HFR.out).mono ?_; rintro e wF ⟨rfl, hb⟩; have HP4 := Aside0.mk (HP3.out.after hb); clear hb) | ((with_reducible refine zqar (N := 12) rfl ?_); refine zqav ?hg3 (N := 12) ?hd3 (cs := #[.int .i64 0, .bool false, .bool false, .int .i64 0, .int .u8 0, .int .u8 0, .int .u8 0, .int .u8 0, .int .u8 0, .int .u8 0, .int .u8 0, .int .u8 0]) (t := 24) ?hr3 ?_; (case hd3 => rfl); (case hg3 => rfl); (case hr3 => first | (go_simp; done) | (go_simp; rfl)); intro g eg wG hG hBG; have HG := Aside0.mk hG; have HBG := Aside0.mk hBG; have EG := Aside0.mk eg; clear hG hBG eg; have ncc0 : wG.cell? ⟨g, 0, none⟩ = some (.int .i64 0) := (zqab HG.out 0).trans rfl; have ncf0 := zqaa HG.out 0; have ncc1 : wG.cell? ⟨g, 1, none⟩ = some (.bool false) := (zqab HG.out 1).trans rfl; have ncf1 := zqaa HG.out 1; have ncc2 : wG.cell? ⟨g, 2, none⟩ = some (.bool false) := (zqab HG.out 2).trans rfl; have ncf2 := zqaa HG.out 2; have ncc3 : wG.cell? ⟨g, 3, none⟩ = some (.int .i64 0) := (zqab HG.out 3).trans rfl; have ncf3 := zqaa HG.out 3; have ncc4 : wG.cell? ⟨g, 4, none⟩ = some (.int .u8 0) := (zqab HG.out 4).trans rfl; have ncf4 := zqaa HG.out 4; have ncc5 : wG.cell? ⟨g, 5, none⟩ = some (.int .u8 0) := (zqab HG.out 5).trans rfl; have ncf5 := zqaa HG.out 5; have ncc6 : wG.cell? ⟨g, 6, none⟩ = some (.int .u8 0) := (zqab HG.out 6).trans rfl; have ncf6 := zqaa HG.out 6; have ncc7 : wG.cell? ⟨g, 7, none⟩ = some (.int .u8 0) := (zqab HG.out 7).trans rfl; have ncf7 := zqaa HG.out 7; have ncc8 : wG.cell? ⟨g, 8, none⟩ = some (.int .u8 0) := (zqab HG.out 8).trans rfl; have ncf8 := zqaa HG.out 8; have ncc9 : wG.cell? ⟨g, 9, none⟩ = some (.int .u8 0) := (zqab HG.out 9).trans rfl; have ncf9 := zqaa HG.out 9; have ncc10 : wG.cell? ⟨g, 10, none⟩ = some (.int .u8 0) := (zqab HG.out 10).trans rfl; have ncf10 := zqaa HG.out 10; have ncc11 : wG.cell? ⟨g, 11, none⟩ = some (.int .u8 0) := (zqab HG.out 11).trans rfl; have ncf11 := zqaa HG.out 11) | ((with_reducible refine zqau (t := 24) (p := 12) rfl ?_); refine zqap (t := 24) (p := 12) (v := ?vo12) (w1 := ((((((((((((wG.setCell ⟨g, 0, none⟩ (.int .i64 q1)).setCell ⟨g, 1, none⟩ (.bool q2)).setCell ⟨g, 2, none⟩ (.bool q3)).setCell ⟨g, 3, none⟩ (.int .i64 q4)).setCell ⟨g, 4, none⟩ (.int .u8 q5)).setCell ⟨g, 5, none⟩ (.int .u8 q6)).setCell ⟨g, 6, none⟩ (.int .u8 q7)).setCell ⟨g, 7, none⟩ (.int .u8 q8)).setCell ⟨g, 8, none⟩ (.int .u8 q9)).setCell ⟨g, 9, none⟩ (.int .u8 q10)).setCell ⟨g, 10, none⟩ (.int .u8 q11)).setCell ⟨g, 11, none⟩ (.int .u8 q12))) ?hg ?ho ?hn ?hr ?_; (case ho => rfl); (case hg => rfl); (case hn => rfl); (case hr => first | (go_simp; done) | (go_simp; rfl)); intro wH hw; have HGH := Aside0.mk (by rw [hw]; exact put12 _ _ _ _ _ _ _ _ _ _ _ _ HG.out : wH.heap[g]? = some (.cells #[.int .i64 q1, .bool q2, .bool q3, .int .i64 q4, .int .u8 q5, .int .u8 q6, .int .u8 q7, .int .u8 q8, .int .u8 q9, .int .u8 q10, .int .u8 q11, .int .u8 q12] 24 (0, 0))); have HP6 := Aside0.mk (HP4.out.after (by rw [hw]; exact below12 _ _ _ _ _ _ _ _ _ _ _ _ HBG.out (by rw [EG.out]; exact Nat.le_refl _)) : RdSt w #[.int .i64 0, .bool false, .bool false, .int .i64 0, .int .u8 0, .int .u8 0, .int .u8 0, .int .u8 0, .int .u8 0, .int .u8 0, .int .u8 0, .int .u8 0] b0 b1 wH raw' last' run'); clear hw; have mcc0 : wH.cell? ⟨g, 0, none⟩ = some (.int .i64 q1) := (zqab HGH.out 0).trans rfl; have mcf0 := zqaa HGH.out 0; have mcc1 : wH.cell? ⟨g, 1, none⟩ = some (.bool q2) := (zqab HGH.out 1).trans rfl; have mcf1 := zqaa HGH.out 1; have mcc2 : wH.cell? ⟨g, 2, none⟩ = some (.bool q3) := (zqab HGH.out 2).trans rfl; have mcf2 := zqaa HGH.out 2; have mcc3 : wH.cell? ⟨g, 3, none⟩ = some (.int .i64 q4) := (zqab HGH.out 3).trans rfl; have mcf3 := zqaa HGH.out 3; have mcc4 : wH.cell? ⟨g, 4, none⟩ = some (.int .u8 q5) := (zqab HGH.out 4).trans rfl; have mcf4 := zqaa HGH.out 4; have mcc5 : wH.cell? ⟨g, 5, none⟩ = some (.int .u8 q6) := (zqab HGH.out 5).trans rfl; have mcf5 := zqaa HGH.out 5; have mcc6 : wH.cell? ⟨g, 6, none⟩ = some (.int .u8 q7) := (zqab HGH.out 6).trans rfl; have mcf6 := zqaa HGH.out 6; have mcc7 : wH.cell? ⟨g, 7, none⟩ = some (.int .u8 q8) := (zqab HGH.out 7).trans rfl; have mcf7 := zqaa HGH.out 7; have mcc8 : wH.cell? ⟨g, 8, none⟩ = some (.int .u8 q9) := (zqab HGH.out 8).trans rfl; have mcf8 := zqaa HGH.out 8; have mcc9 : wH.cell? ⟨g, 9, none⟩ = some (.int .u8 q10) := (zqab HGH.out 9).trans rfl; have mcf9 := zqaa HGH.out 9; have mcc10 : wH.cell? ⟨g, 10, none⟩ = some (.int .u8 q11) := (zqab HGH.out 10).trans rfl; have mcf10 := zqaa HGH.out 10; have mcc11 : wH.cell? ⟨g, 11, none⟩ = some (.int .u8 q12) := (zqab HGH.out 11).trans rfl; have mcf11 := zqaa HGH.out 11; have zdc0 : wH.cell? ⟨b0, 0, none⟩ = some (.int .i64 0) := (zqab HP6.out.bk 0).trans rfl; have zdf0 := zqaa HP6.out.bk 0; have zdc1 : wH.cell? ⟨b0, 1, none⟩ = some (.bool false) := (zqab HP6.out.bk 1).trans rfl; have zdf1 := zqaa HP6.out.bk 1; have zdc2 : wH.cell? ⟨b0, 2, none⟩ = some (.bool false) := (zqab HP6.out.bk 2).trans rfl; have zdf2 := zqaa HP6.out.bk 2; have zdc3 : wH.cell? ⟨b0, 3, none⟩ = some (.int .i64 0) := (zqab HP6.out.bk 3).trans rfl; have zdf3 := zqaa HP6.out.bk 3; have zdc4 : wH.cell? ⟨b0, 4, none⟩ = some (.int .u8 0) := (zqab HP6.out.bk 4).trans rfl; have zdf4 := zqaa HP6.out.bk 4; have zdc5 : wH.cell? ⟨b0, 5, none⟩ = some (.int .u8 0) := (zqab HP6.out.bk 5).trans rfl; have zdf5 := zqaa HP6.out.bk 5; have zdc6 : wH.cell? ⟨b0, 6, none⟩ = some (.int .u8 0) := (zqab HP6.out.bk 6).trans rfl; have zdf6 := zqaa HP6.out.bk 6; have zdc7 : wH.cell? ⟨b0, 7, none⟩ = some (.int .u8 0) := (zqab HP6.out.bk 7).trans rfl; have zdf7 := zqaa HP6.out.bk 7; have zdc8 : wH.cell? ⟨b0, 8, none⟩ = some (.int .u8 0) := (zqab HP6.out.bk 8).trans rfl; have zdf8 := zqaa HP6.out.bk 8; have zdc9 : wH.cell? ⟨b0, 9, none⟩ = some (.int .u8 0) := (zqab HP6.out.bk 9).trans rfl; have zdf9 := zqaa HP6.out.bk 9; have zdc10 : wH.cell? ⟨b0, 10, none⟩ = some (.int .u8 0) := (zqab HP6.out.bk 10).trans rfl; have zdf10 := zqaa HP6.out.bk 10; have zdc11 : wH.cell? ⟨b0, 11, none⟩ = some (.int .u8 0) := (zqab HP6.out.bk 11).trans rfl; have zdf11 := zqaa HP6.out.bk 11))
           refine bodyPost_ret (zqbi rfl _ _ b0 24 #[.int .i64 q1, .bool q2, .bool q3, .int .i64 q4, .int .u8 q5, .int .u8 q6, .int .u8 q7, .int .u8 q8, .int .u8 q9, .int .u8 q10, .int .u8 q11, .int .u8 q12] (0, 0) _ rfl (put12 _ _ _ _ _ _ _ _ _ _ _ _ HP6.out.bk) Try.underlying24 rfl (by kernel_rfl)) rfl ?_
           exact ⟨rfl, below12 _ _ _ _ _ _ _ _ _ _ _ _ HP6.out.bel HP6.out.le0⟩
        ·
         rw [if_neg d9] at hm
         have hd9 : decide (er = 0 ∧ kd = 9) = false := decide_eq_false d9
         clear d9
         have HM2 := Aside0.mk hm
         clear hm
         go_wp2_with (first | (go_at_call 62; refine (take.calls w _ #[.int .i64 0, .bool false, .bool false, .int .i64 0, .int .u8 0, .int .u8 0, .int .u8 0, .int .u8 0, .int .u8 0, .int .u8 0, .int .u8 0, .int .u8 0] b0 b1 raw last run (rd l0 (k : Int)) 0 last' run' raw' HP.out HTK.out).mono ?_; rintro e wT ⟨rfl, hT⟩; have HP2 := Aside0.mk hT; clear hT; have zc0 : wT.cell? ⟨b0, 0, none⟩ = some (.int .i64 0) := (zqab HP2.out.bk 0).trans rfl; have zf0 := zqaa HP2.out.bk 0; have zc1 : wT.cell? ⟨b0, 1, none⟩ = some (.bool false) := (zqab HP2.out.bk 1).trans rfl; have zf1 := zqaa HP2.out.bk 1; have zc2 : wT.cell? ⟨b0, 2, none⟩ = some (.bool false) := (zqab HP2.out.bk 2).trans rfl; have zf2 := zqaa HP2.out.bk 2; have zc3 : wT.cell? ⟨b0, 3, none⟩ = some (.int .i64 0) := (zqab HP2.out.bk 3).trans rfl; have zf3 := zqaa HP2.out.bk 3; have zc4 : wT.cell? ⟨b0, 4, none⟩ = some (.int .u8 0) := (zqab HP2.out.bk 4).trans rfl; have zf4 := zqaa HP2.out.bk 4; have zc5 : wT.cell? ⟨b0, 5, none⟩ = some (.int .u8 0) := (zqab HP2.out.bk 5).trans rfl; have zf5 := zqaa HP2.out.bk 5; have zc6 : wT.cell? ⟨b0, 6, none⟩ = some (.int .u8 0) := (zqab HP2.out.bk 6).trans rfl; have zf6 := zqaa HP2.out.bk 6; have zc7 : wT.cell? ⟨b0, 7, none⟩ = some (.int .u8 0) := (zqab HP2.out.bk 7).trans rfl; have zf7 := zqaa HP2.out.bk 7; have zc8 : wT.cell? ⟨b0, 8, none⟩ = some (.int .u8 0) := (zqab HP2.out.bk 8).trans rfl; have zf8 := zqaa HP2.out.bk 8; have zc9 : wT.cell? ⟨b0, 9, none⟩ = some (.int .u8 0) := (zqab HP2.out.bk 9).trans rfl; have zf9 := zqaa HP2.out.bk 9; have zc10 : wT.cell? ⟨b0, 10, none⟩ = some (.int .u8 0) := (zqab HP2.out.bk 10).trans rfl; have zf10 := zqaa HP2.out.bk 10; have zc11 : wT.cell? ⟨b0, 11, none⟩ = some (.int .u8 0) := (zqab HP2.out.bk 11).trans rfl; have zf11 := zqaa HP2.out.bk 11) | (go_at_call 63; have hD0 := done.calls w _ #[.int .i64 0, .bool false, .bool false, .int .i64 0, .int .u8 0, .int .u8 0, .int .u8 0, .int .u8 0, .int .u8 0, .int .u8 0, .int .u8 0, .int .u8 0] b0 b1 raw' last' run' kd n er HP2.out HN.out; rw [hd9] at hD0; refine hD0.mono ?_; clear hD0; rintro e wD ⟨rfl, hD⟩; have HP3 := Aside0.mk hD; clear hD; obtain ⟨A3, c3, HF3, g30, g31, g32, f30, f31, f32⟩ := HP3.out.facts))
         exact ⟨⟨k + 1, raw', last', run', by omega, by go_num, ⟨by rw [show ((k + 1 : Nat) : Int) = (k : Int) + 1 from by omega]; exact HM2.out⟩, HP3⟩, dec_meas hlt hk1⟩
    ·
     obtain rfl : k = l0.length := by omega
     have hm := HM.out
     clear HM
     rw [List.drop_eq_nil_of_le (by rw [List.length_take]; omega), decL] at hm
     simp only [Option.bind_some, Option.getD_none, Option.some.injEq] at hm
     have hltb : decide ((l0.length : Int) < (l0.length : Int)) = false := decide_eq_false (by omega)
     have zc0 : wr.cell? ⟨b0, 0, none⟩ = some (.int .i64 0) := (zqab HP.out.bk 0).trans rfl
     have zf0 := zqaa HP.out.bk 0
     have zc1 : wr.cell? ⟨b0, 1, none⟩ = some (.bool false) := (zqab HP.out.bk 1).trans rfl
     have zf1 := zqaa HP.out.bk 1
     have zc2 : wr.cell? ⟨b0, 2, none⟩ = some (.bool false) := (zqab HP.out.bk 2).trans rfl
     have zf2 := zqaa HP.out.bk 2
     have zc3 : wr.cell? ⟨b0, 3, none⟩ = some (.int .i64 0) := (zqab HP.out.bk 3).trans rfl
     have zf3 := zqaa HP.out.bk 3
     have zc4 : wr.cell? ⟨b0, 4, none⟩ = some (.int .u8 0) := (zqab HP.out.bk 4).trans rfl
     have zf4 := zqaa HP.out.bk 4
     have zc5 : wr.cell? ⟨b0, 5, none⟩ = some (.int .u8 0) := (zqab HP.out.bk 5).trans rfl
     have zf5 := zqaa HP.out.bk 5
     have zc6 : wr.cell? ⟨b0, 6, none⟩ = some (.int .u8 0) := (zqab HP.out.bk 6).trans rfl
     have zf6 := zqaa HP.out.bk 6
     have zc7 : wr.cell? ⟨b0, 7, none⟩ = some (.int .u8 0) := (zqab HP.out.bk 7).trans rfl
     have zf7 := zqaa HP.out.bk 7
     have zc8 : wr.cell? ⟨b0, 8, none⟩ = some (.int .u8 0) := (zqab HP.out.bk 8).trans rfl
     have zf8 := zqaa HP.out.bk 8
     have zc9 : wr.cell? ⟨b0, 9, none⟩ = some (.int .u8 0) := (zqab HP.out.bk 9).trans rfl
     have zf9 := zqaa HP.out.bk 9
     have zc10 : wr.cell? ⟨b0, 10, none⟩ = some (.int .u8 0) := (zqab HP.out.bk 10).trans rfl
     have zf10 := zqaa HP.out.bk 10
     have zc11 : wr.cell? ⟨b0, 11, none⟩ = some (.int .u8 0) := (zqab HP.out.bk 11).trans rfl
     have zf11 := zqaa HP.out.bk 11
     rw [if_neg (by omega)] at hm
     subst hm
     go_wp2
     refine bodyPost_ret (zqbi rfl _ _ b0 24 #[.int .i64 0, .bool false, .bool false, .int .i64 0, .int .u8 0, .int .u8 0, .int .u8 0, .int .u8 0, .int .u8 0, .int .u8 0, .int .u8 0, .int .u8 0] (0, 0) _ rfl (put12 _ _ _ _ _ _ _ _ _ _ _ _ HP.out.bk) Try.underlying24 rfl (by kernel_rfl)) rfl ?_
     exact ⟨rfl, below12 _ _ _ _ _ _ _ _ _ _ _ _ HP.out.bel HP.out.le0⟩

 ·
  rw [if_neg hsz] at h
  exact absurd h (by simp)
theorem codec_Decode.calls (A0 : Option Addr) (c0 : Nat) (l0 : List Int) (r1 : Int) (r2 : Bool) (r3 : Bool) (r4 : Int) (r5 : Int) (r6 : Int) (r7 : Int) (r8 : Int) (r9 : Int) (r10 : Int) (r11 : Int) (r12 : Int) (r13 : Int) (r14 : Int) (w : World) (hr0 : Kd.C (Kd.int .i64) w A0 l0.length l0) (hc0 : l0.length ≤ c0) (h : codec_Decode.f l0 = some (r1, r2, r3, r4, r5, r6, r7, r8, r9, r10, r11, r12, r13, r14)) :
  Calls Try.prog 35 #[.slice A0 l0.length c0] w fun e w' => e = .returned (.tuple #[.agg #[.int .i64 r1, .bool r2, .bool r3, .int .i64 r4, .int .u8 r5, .int .u8 r6, .int .u8 r7, .int .u8 r8, .int .u8 r9, .int .u8 r10, .int .u8 r11, .int .u8 r12], .int .i64 r13, .int .i64 r14]) ∧ Below w.heap.size w w' :=
 decode_all A0 c0 l0 (r1, r2, r3, r4, r5, r6, r7, r8, r9, r10, r11, r12, r13, r14) w hr0 hc0 h


end Go.Proofs.Ytakemodmdhglnaa.PA
