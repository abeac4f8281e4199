/- Functions of the program, in plain Lean, and their walks (printed; half the indent). Conditions: none. -/
-- PRINTED by print.py (a twelfth state) out of the translation. Not trusted: Lean checks it.
import Derived.Test.YtakemodmdhglnaaPAx0
import Derived.Test.YtakemodmdhglnaaPAx11
namespace Go.Proofs.Ytakemodmdhglnaa.PA
open Go.RowKit Go.Proofs.YtakemodmdhglnaaW.PrintWords Go.Proofs.YtakemodmdhglnaaW.PrintLast Go.Proofs.YtakemodmdhglnaaW.PrintMore
attribute [local go_sem] zqbb zqaz zqbd zqbe zqax zqay zqba zqbc   -- for this text's walks alone
set_option linter.unusedVariables false
set_option linter.unusedSimpArgs false

/-! HAND slices_Repeat_int_int: function 50 -/
def slices_Repeat_int_int.f (l0 : List Int) (a1 : Int) : Option (List Int) := if l0.length = 1 ∧ a1 = 10 then some (List.replicate 10 (rd l0 0)) else none
/-- Ten cells, the first ones of which hold x. -/
def tenOf (x : Int) (n : Nat) : Array Value := (List.replicate n (Value.int .i64 x) ++ List.replicate (10 - n) (Value.int .i64 0)).toArray
theorem tenOf_size (x : Int) (n : Nat) (h : n ≤ 10) : (tenOf x n).size = 10 := by simp [tenOf]; omega
theorem tenOf_get (x : Int) (n j : Nat) (hj : j < n) : (tenOf x n)[j]? = some (.int .i64 x) := by
 simp [tenOf, List.getElem?_append, hj]
/-- A block of ten cells, behind a copy of k of the first ones behind the n that hold x. -/
theorem ten_put (W : World) (B : Nat) (x : Int) (k : Nat) : ∀ n, n + k ≤ 10 → W.heap[B]? = some (.cells (tenOf x n) 3 (0, 0)) →
  (W.setCells B n (List.replicate k (.int .i64 x))).heap[B]? = some (.cells (tenOf x (n + k)) 3 (0, 0)) := by
 induction k generalizing W with
 | zero => intro n _ h; exact h
 | succ k ih =>
  intro n hn h
  rw [List.replicate_succ, World.setCells]
  have h1 := blk_set h n (Value.int .i64 x)
  have e : (tenOf x n).setIfInBounds n (.int .i64 x) = tenOf x (n + 1) := by
   unfold tenOf
   rw [List.setIfInBounds_toArray, List.set_append_right _ _ (by rw [List.length_replicate]; omega), List.length_replicate, Nat.sub_self, show 10 - n = (10 - (n + 1)) + 1 by omega, List.replicate_succ, List.set_cons_zero, List.replicate_succ' (n := n), List.append_assoc]
   rfl
  rw [e] at h1
  have := ih _ (n + 1) (by omega) h1
  rwa [show n + 1 + k = n + (k + 1) by omega] at this
theorem set_below {w W : World} (B : Nat) (x : Value) (k : Nat) : ∀ n, Below w.heap.size w W → w.heap.size ≤ B → Below w.heap.size w (W.setCells B n (List.replicate k x)) := by
 induction k generalizing W with
 | zero => intro n h _; exact h
 | succ k ih =>
  intro n h hB
  rw [List.replicate_succ, World.setCells]
  exact ih (n + 1) (zqah h hB) hB
theorem size_int : (Try.prog.info? 3).map (·.size) = some 1 := by
 obtain ⟨i0, hi, hz⟩ := Option.map_eq_some_iff.1 info3
 simp only [Prod.mk.injEq] at hz
 rw [hi, Option.map_some, hz.2.1]
/-- copy(row, one). -/
theorem ten_first (W : World) (B : Nat) (ad : Addr) (x : Int) (c c' : Nat) (h : W.heap[B]? = some (.cells (tenOf x 0) 3 (0, 0))) (hx : W.cell? ad = some (.int .i64 x)) :
  (Builtin.copy_ #[25, 25] 3 #[.slice (some ⟨B, 0, none⟩) 10 c, .slice (some ad) 1 c']).run Try.prog W = .ok (.int .i64 1) (W.setCells B 0 (List.replicate 1 (.int .i64 x))) := by
 exact run_copy_cells (P := Try.prog) W 25 25 3 3 B 0 10 c ad 1 c' [.int .i64 x] Try.underlying25 size_int rfl
  (fun j v hj => by
   cases j with
   | zero =>
    obtain rfl : .int .i64 x = v := by simpa using hj
    rw [Addr.add_zero']
    exact hx
   | succ j => simp at hj)
  (fun j hj => by
   have hj' : j < 1 := hj
   have e : j < (tenOf x 0).size := by rw [tenOf_size x 0 (by omega)]; omega
   rw [Nat.zero_add, zqab h, Array.getElem?_eq_getElem e]
   rfl)
  (fun j _ => zqaa h _) (fun v hv => by rw [List.mem_singleton.1 hv]; rfl)
/-- copy(row[n:], row[:n]). -/
theorem ten_copy (W : World) (B : Nat) (x : Int) (n k : Nat) (hk : k = Nat.min n (10 - n)) (hn : n ≤ 10) (h : W.heap[B]? = some (.cells (tenOf x n) 3 (0, 0))) (c c' : Nat) :
  (Builtin.copy_ #[25, 25] 3 #[.slice (some ⟨B, n, none⟩) (10 - n) c, .slice (some ⟨B, 0, none⟩) n c']).run Try.prog W = .ok (.int .i64 (k : Int)) (W.setCells B n (List.replicate k (.int .i64 x))) := by
 have hk1 : k ≤ n := by rw [hk]; exact Nat.min_le_left _ _
 have hk2 : k ≤ 10 - n := by rw [hk]; exact Nat.min_le_right _ _
 have h1 := run_copy_cells (P := Try.prog) W 25 25 3 3 B n (10 - n) c ⟨B, 0, none⟩ n c' (List.replicate k (.int .i64 x)) Try.underlying25 size_int (by rw [List.length_replicate]; exact hk)
  (fun j v hj => by
   obtain ⟨hl, hv⟩ := List.getElem?_eq_some_iff.1 hj
   rw [List.length_replicate] at hl
   rw [List.getElem_replicate] at hv
   subst hv
   have e : (Addr.add ⟨B, 0, none⟩ j) = ⟨B, j, none⟩ := by unfold Addr.add; split <;> simp_all
   rw [e, zqab h, tenOf_get x n j (by omega)])
  (fun j hj => by
   rw [List.length_replicate] at hj
   have e : n + j < (tenOf x n).size := by rw [tenOf_size x n hn]; omega
   rw [zqab h, Array.getElem?_eq_getElem e]
   rfl)
  (fun j _ => zqaa h _) (fun v hv => by rw [(List.mem_replicate.1 hv).2]; rfl)
 rw [List.length_replicate] at h1
 exact h1
set_option maxHeartbeats 4000000 in
set_option maxRecDepth 100000 in
theorem slices_Repeat_int_int.calls (A0 : Option Addr) (c0 : Nat) (l0 : List Int) (a1 : Int) (r : List Int) (w : World) (hr0 : Kd.C (Kd.int .i64) w A0 l0.length l0) (hc0 : l0.length ≤ c0) (h : slices_Repeat_int_int.f l0 a1 = some r) :
  Calls Try.prog 50 #[.slice A0 l0.length c0, .int .i64 a1] w fun e w' => ∃ v0_ : Value, e = .returned (v0_) ∧ Kd.R (Kd.int .i64) 3 w' w.heap.size (fun _ => True) v0_ r ∧ Below w.heap.size w w' := by
 unfold slices_Repeat_int_int.f at h
 by_cases hl : l0.length = 1 ∧ a1 = 10
 ·
  rw [if_pos hl] at h
  obtain rfl := Option.some.inj h
  obtain ⟨hl1, rfl⟩ := hl
  obtain ⟨ad, e, hx⟩ := Kd.at_int hr0 0 (by omega) (by omega)
  subst e
  rw [hl1] at hc0 ⊢
  generalize rd l0 0 = x at hx ⊢
  (try rw [show ((0 : Int)).toNat = 0 from rfl] at hx)
  (try rw [Addr.add_zero'] at hx)
  clear hr0 hl1 h
  have HX := Aside0.mk hx
  have HM := Aside0.mk (fun w => bits_Mul.calls 1 10 0 10 w (by decide +kernel))
  have hmk : ∀ w : World, (Instr.makeSlice 25 (.int .i64 10) (.int .i64 10)).run Try.prog w = .ok (.slice (some ⟨w.heap.size, 0, none⟩) 10 10) (w.alloc (.cells (tenOf x 0) 3)) := fun w => by
   obtain ⟨i0, hi, hzz⟩ := Option.map_eq_some_iff.1 info3
   simp only [Prod.mk.injEq] at hzz
   obtain ⟨hz0, hz1, hz2⟩ := hzz
   have h := run_make w 25 3 i0 (.int .i64 0) Try.underlying25 hi hz0 .i64 .i64 10 10 (by omega) (by omega) (by rw [hz2]; omega) (by omega)
   rw [hz1, show madeCells (Value.int .i64 0).cells (Int.toNat 10 * 1) = tenOf x 0 from (by
    apply Array.ext
    ·
     simp [madeCells, tenOf]
    ·
     intro i h1 h2
     have e1 : (madeCells (Value.int .i64 0).cells (Int.toNat 10 * 1))[i] = .int .i64 0 := by simp [madeCells, Value.cells, Nat.mod_one]
     have e2 : (tenOf x 0)[i] = .int .i64 0 := by simp only [tenOf, List.replicate_zero, List.nil_append, List.getElem_toArray, List.getElem_replicate]
     rw [e1, e2])] at h
   exact h
  clear hx
  go_enter Try.func50, Try.ntmps50
  go_wp2_with (go_at_call 72; refine (HM.out _).mono ?_; rintro e w1 ⟨rfl, hd⟩; have HB1 := Aside0.mk hd.below; obtain hs1 : w1.heap.size = w.heap.size := (by obtain ⟨m, rfl⟩ := hd; rfl); clear hd; obtain ⟨W2, hW2, hcp⟩ : ∃ W2, W2 = (w1.alloc (.cells (tenOf x 0) 3)).setCells w.heap.size 0 (List.replicate 1 (.int .i64 x)) ∧ (Builtin.copy_ #[25, 25] 3 #[.slice (some ⟨w.heap.size, 0, none⟩) 10 10, .slice (some ad) 1 c0]).run Try.prog (w1.alloc (.cells (tenOf x 0) 3)) = .ok (.int .i64 1) W2 := ⟨_, rfl, ten_first _ _ _ _ _ _ (by rw [← hs1]; exact heap_alloc_new _ _) (((Below.refl w1.heap.size w1).alloc (Nat.le_refl _) _).cell (by have := World.block_lt_of_cell? w _ HX.out; omega) |>.trans ((HB1.out.cell (World.block_lt_of_cell? w _ HX.out)).trans HX.out))⟩; have BK2 := Aside0.mk (show W2.heap[w.heap.size]? = some (.cells (tenOf x 1) 3 (0, 0)) by rw [hW2]; exact ten_put _ _ x 1 0 (by omega) (by rw [← hs1]; exact heap_alloc_new _ _)); have HB2 := Aside0.mk (show Below w.heap.size w W2 by rw [hW2]; exact set_below _ _ _ _ (HB1.out.alloc (by omega) _) (Nat.le_refl _)); clear hW2)
  go_loopw [8] (fun v wr => ∃ n : Nat, v = .int .i64 (n : Int) ∧ (n = 1 ∨ n = 2 ∨ n = 4 ∨ n = 8 ∨ n = 10) ∧ Aside0 (wr.heap[w.heap.size]? = some (.cells (tenOf x n) 3 (0, 0))) ∧ Aside0 (Below w.heap.size w wr)) (fun v _ => 10 - (intOf v).toNat)
  case atStart => exact ⟨1, rfl, .inl rfl, BK2, HB2⟩
  case round =>
   clear BK2 HB2 hcp
   obtain ⟨n, rfl, hn, BK, HB⟩ := hrel
   rcases hn with rfl | rfl | rfl | rfl | rfl
   ·
    obtain ⟨W3, hW3, hcp⟩ : ∃ W3, W3 = wr.drew.setCells w.heap.size 1 (List.replicate 1 (.int .i64 x)) ∧ (Builtin.copy_ #[25, 25] 3 #[.slice (some ⟨w.heap.size, 1, none⟩) 9 9, .slice (some ⟨w.heap.size, 0, none⟩) 1 10]).run Try.prog wr.drew = .ok (.int .i64 1) W3 := ⟨_, rfl, ten_copy wr.drew _ x 1 1 rfl (by omega) BK.out 9 10⟩
    have BK3 := Aside0.mk (show W3.heap[w.heap.size]? = some (.cells (tenOf x 2) 3 (0, 0)) by rw [hW3]; exact ten_put wr.drew _ x 1 1 (by omega) BK.out)
    have HB3 := Aside0.mk (show Below w.heap.size w W3 by rw [hW3]; exact set_below _ _ _ _ (zqae HB.out) (Nat.le_refl _))
    clear hW3
    go_wp2
    go_region
    all_goals
     go_wp2
     exact ⟨⟨2, rfl, .inr (.inl rfl), BK3, HB3⟩, by simp [intOf]⟩
   ·
    obtain ⟨W3, hW3, hcp⟩ : ∃ W3, W3 = wr.drew.setCells w.heap.size 2 (List.replicate 2 (.int .i64 x)) ∧ (Builtin.copy_ #[25, 25] 3 #[.slice (some ⟨w.heap.size, 2, none⟩) 8 8, .slice (some ⟨w.heap.size, 0, none⟩) 2 10]).run Try.prog wr.drew = .ok (.int .i64 2) W3 := ⟨_, rfl, ten_copy wr.drew _ x 2 2 rfl (by omega) BK.out 8 10⟩
    have BK3 := Aside0.mk (show W3.heap[w.heap.size]? = some (.cells (tenOf x 4) 3 (0, 0)) by rw [hW3]; exact ten_put wr.drew _ x 2 2 (by omega) BK.out)
    have HB3 := Aside0.mk (show Below w.heap.size w W3 by rw [hW3]; exact set_below _ _ _ _ (zqae HB.out) (Nat.le_refl _))
    clear hW3
    go_wp2
    go_region
    all_goals
     go_wp2
     exact ⟨⟨4, rfl, .inr (.inr (.inl rfl)), BK3, HB3⟩, by simp [intOf]⟩
   ·
    obtain ⟨W3, hW3, hcp⟩ : ∃ W3, W3 = wr.drew.setCells w.heap.size 4 (List.replicate 4 (.int .i64 x)) ∧ (Builtin.copy_ #[25, 25] 3 #[.slice (some ⟨w.heap.size, 4, none⟩) 6 6, .slice (some ⟨w.heap.size, 0, none⟩) 4 10]).run Try.prog wr.drew = .ok (.int .i64 4) W3 := ⟨_, rfl, ten_copy wr.drew _ x 4 4 rfl (by omega) BK.out 6 10⟩
    have BK3 := Aside0.mk (show W3.heap[w.heap.size]? = some (.cells (tenOf x 8) 3 (0, 0)) by rw [hW3]; exact ten_put wr.drew _ x 4 4 (by omega) BK.out)
    have HB3 := Aside0.mk (show Below w.heap.size w W3 by rw [hW3]; exact set_below _ _ _ _ (zqae HB.out) (Nat.le_refl _))
    clear hW3
    go_wp2
    go_region
    all_goals
     go_wp2
     exact ⟨⟨8, rfl, .inr (.inr (.inr (.inl rfl))), BK3, HB3⟩, by simp [intOf]⟩
   ·
    obtain ⟨W3, hW3, hcp⟩ : ∃ W3, W3 = wr.drew.setCells w.heap.size 8 (List.replicate 2 (.int .i64 x)) ∧ (Builtin.copy_ #[25, 25] 3 #[.slice (some ⟨w.heap.size, 8, none⟩) 2 2, .slice (some ⟨w.heap.size, 0, none⟩) 8 10]).run Try.prog wr.drew = .ok (.int .i64 2) W3 := ⟨_, rfl, ten_copy wr.drew _ x 8 2 rfl (by omega) BK.out 2 10⟩
    have BK3 := Aside0.mk (show W3.heap[w.heap.size]? = some (.cells (tenOf x 10) 3 (0, 0)) by rw [hW3]; exact ten_put wr.drew _ x 2 8 (by omega) BK.out)
    have HB3 := Aside0.mk (show Below w.heap.size w W3 by rw [hW3]; exact set_below _ _ _ _ (zqae HB.out) (Nat.le_refl _))
    clear hW3
    go_wp2
    go_region
    all_goals
     go_wp2
     exact ⟨⟨10, rfl, .inr (.inr (.inr (.inr rfl))), BK3, HB3⟩, by simp [intOf]⟩
   ·
    go_wp2
    go_ret
    refine ⟨_, rfl, ⟨fun _ _ => trivial, List.replicate 10 (.int .i64 x), ⟨rfl, .inr ⟨w.heap.size, 10, _, rfl, Nat.le_refl _, BK.out, by simp, by decide, rfl, rfl⟩⟩, ?_⟩, HB.out⟩
    rw [show List.replicate 10 (Value.int .i64 x) = encs (Value.int .i64) (List.replicate 10 x) from rfl]
    exact Kd.reps_scalar _
 ·
  rw [if_neg hl] at h
  exact absurd h (by simp)


end Go.Proofs.Ytakemodmdhglnaa.PA
