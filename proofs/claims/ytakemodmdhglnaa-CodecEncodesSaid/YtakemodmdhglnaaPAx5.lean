/- Functions of the program, in plain Lean, and their walks (printed; half the indent). Conditions: none. -/
-- PRINTED by print.py (a twelfth state) out of the translation. Not trusted: Lean checks it.
import Derived.Test.YtakemodmdhglnaaPAx0
namespace Go.Proofs.Ytakemodmdhglnaa.PA
open Go.RowKit Go.Proofs.YtakemodmdhglnaaW.PrintWords Go.Proofs.YtakemodmdhglnaaW.PrintLast Go.Proofs.YtakemodmdhglnaaW.PrintMore
attribute [local go_sem] zqbb zqaz zqbd zqbe zqax zqay zqba zqbc   -- for this text's walks alone
set_option linter.unusedVariables false
set_option linter.unusedSimpArgs false

/-! HAND slices_Concat_int_int: function 49 -/
/-- slices.Grow of no slice: room for so many, none of them told yet. -/
theorem growInts.calls (n : Nat) (w : World) (hn : n * 8 ≤ 140737488355328) :
  Calls Try.prog 71 #[.slice none 0 0, .int .i64 (n : Int)] w fun e w' => ∃ v, e = .returned v ∧ Kd.R (Kd.int .i64) 3 w' w.heap.size (fun _ => True) v [] ∧ Below w.heap.size w w' := by
 have h1 : ¬ ((n : Int) < 0) := by omega
 have h2 : wrap64 ((0 : Int) - 0) = 0 := by simp [wrap64]
 have h3 : wrap64 ((n : Int) - 0) = (n : Int) := by unfold wrap64; omega
 by_cases h0 : n = 0
 ·
  subst h0
  go_enter Try.func71, Try.ntmps71
  go_wp2
  go_ret
  exact ⟨_, rfl, Kd.R_nil _ _ _ _ _, Below.refl _ _⟩
 ·
  have h4 : (n : Int) > 0 := by omega
  obtain ⟨i0, hi, hzz⟩ := Option.map_eq_some_iff.1 info3
  simp only [Prod.mk.injEq] at hzz
  obtain ⟨hz0, hz1, hz2⟩ := hzz
  obtain ⟨G, hG⟩ : ∃ G, G = grownCap w n 0 3 := ⟨_, rfl⟩
  obtain ⟨cur, hcur⟩ : ∃ cur, cur = (#[] : Array Value) ++ Builtin.zeroCells (Value.int .i64 0).cells n ++ Builtin.zeroCells (Value.int .i64 0).cells (G - n) := ⟨_, rfl⟩
  have hGn : n ≤ G := by rw [hG]; exact grownCap_ge w _ _ _
  have hG63 : G ≤ maxLen := by rw [hG]; exact grownCap_le_maxLen w n 0 3 (by unfold maxLen; omega)
  have hsz : cur.size = G * 1 := by
   rw [hcur]
   rw [Array.size_append, Array.size_append, size_zeroCells, size_zeroCells]
   simp [Value.cells]
   omega
  have hrz : ∀ ty, (Builtin.append_ #[25, 3] ty #[.slice none 0 0, .int .i64 (n : Int)]).run Try.prog w = .ok (.slice (some ⟨w.heap.size, 0, none⟩) n G) (w.drew.alloc (.cells cur 3)) := fun ty => by
   have hold : (Builtin.firstCells i0.size 0 (.slice none 0 0)).run Try.prog w.drew = .ok (#[] : Array Value) w.drew := run_firstCells_none w.drew i0.size 0 0 0
   have h := Lib.run_append_grow_zeros w 25 3 ty 3 i0 (.int .i64 0) .i64 .i64 Try.underlying25 Try.underlying3 hi hz0 none 0 0 [] hold n (by omega) (by omega) (by omega) (by omega) (by rw [hz2]; omega) (by rw [hz2]; exact growslice_fits (by omega) (by omega))
   rw [Nat.zero_add, ← hG] at h
   rw [hcur]
   exact h
  have hG' : G ≤ 9223372036854775807 := hG63
  clear hcur hi hz0 hz1 hz2 hG
  go_enter Try.func71, Try.ntmps71
  go_wp2_with (at_builtin; refine Lib.wpList_append_run _ rfl _ _ _ _ rfl _ _ rfl rfl _ _ (hrz _) ?_)
  go_ret
  refine ⟨_, rfl, ⟨fun _ _ => trivial, [], ⟨rfl, .inr ⟨w.heap.size, G, cur, rfl, Nat.le_refl _, by rw [show (w.alloc (.cells cur 3)).drew.heap = w.heap.push (.cells cur 3) from rfl]; simp, Nat.zero_le _, hG63, hsz, by simp⟩⟩, Reps.none _ _⟩, ((Below.refl _ w).drew).alloc (Nat.le_refl _) _⟩
def slices_Concat_int_int.f (l0 : List (List Int)) : Option (List Int) := if l0.flatten.length ≤ 1000000 then some l0.flatten else none
theorem flat_take (l0 : List (List Int)) (k : Nat) (hk : k < l0.length) : (l0.take (k + 1)).flatten = (l0.take k).flatten ++ l0.getD k [] := by
 rw [List.take_succ_eq_append_getElem hk, List.flatten_append]
 simp [List.getD_eq_getElem?_getD, List.getElem?_eq_getElem hk]
theorem flat_le (l0 : List (List Int)) (k : Nat) : (l0.take k).flatten.length ≤ l0.flatten.length := by
 conv => rhs; rw [← List.take_append_drop k l0, List.flatten_append, List.length_append]
 omega
theorem add_small (s m : Nat) (h : s + m ≤ 1000000) : wrap64 ((s : Int) + (m : Int)) = (s : Int) + (m : Int) ∧ ¬ ((s : Int) + (m : Int) < 0) := by
 unfold wrap64
 omega
set_option maxHeartbeats 2000000 in
set_option maxRecDepth 100000 in
theorem slices_Concat_int_int.calls (A0 : Option Addr) (c0 : Nat) (l0 : List (List Int)) (r : List Int) (w : World) (hr0 : Kd.C (Kd.slice 3 (Kd.int .i64)) w A0 l0.length l0) (hc0 : l0.length ≤ c0) (h : slices_Concat_int_int.f l0 = some r) :
  Calls Try.prog 49 #[.slice A0 l0.length c0] w fun e w' => ∃ v0_ : Value, e = .returned (v0_) ∧ Kd.R (Kd.int .i64) 3 w' w.heap.size (fun _ => True) v0_ r ∧ Below w.heap.size w w' := by
 unfold slices_Concat_int_int.f at h
 by_cases hlen : l0.flatten.length ≤ 1000000
 ·
  rw [if_pos hlen] at h
  simp only [Option.some.injEq] at h
  subst h
  have HR0 := Aside0.mk hr0
  have HLE : Aside0 (∀ k, (l0.take k).flatten.length ≤ 1000000) := ⟨fun k => Nat.le_trans (flat_le l0 k) hlen⟩
  have hm : l0.length ≤ 9223372036854775807 := hr0.2.1
  have HG := Aside0.mk (growInts.calls l0.flatten.length w (by omega))
  clear hr0 hc0
  go_enter Try.func49, Try.ntmps49
  go_wp2
  go_loopw [3, 11] (fun s i wr => ∃ k : Nat, k ≤ l0.length ∧ s = .int .i64 ((l0.take k).flatten.length : Int) ∧ i = .int .i64 k ∧ Aside0 (wr = w)) (fun _ i _ => l0.length - (intOf i).toNat)
  case atStart => exact ⟨0, Nat.zero_le _, rfl, rfl, ⟨rfl⟩⟩
  case round =>
   obtain ⟨k, hk, rfl, rfl, HW⟩ := hrel
   have hw : w = wr := HW.out.symm
   subst hw
   by_cases hlt : k < l0.length
   ·
    obtain ⟨ad, c, e, hc, hK, hx⟩ := Kd.C_get HR0.out ([] : List Int) (k : Int) (by omega) (by omega)
    cases e
    obtain ⟨A, cc, rfl, hcc, hCK⟩ := hK
    have hx0 := hx 0 _ rfl
    simp only [Int.toNat_natCast] at hx0 hCK hcc
    have hx1 : w.cell? (ad.add k) = some (.slice A (l0.getD k []).length cc) := by simpa [Kd.slice] using hx0
    have HN : Aside0 (((l0.take (k + 1)).flatten.length : Int) = ((l0.take k).flatten.length : Int) + ((l0.getD k []).length : Int)) := ⟨by rw [flat_take l0 k hlt, List.length_append]; omega⟩
    have hb1 := HLE.out (k + 1)
    have hb2 := HN.out
    clear hx hx0 hCK
    generalize (l0.take k).flatten.length = s at hb2 HN
    generalize (l0.getD k []).length = m at hx1 hb2 HN
    obtain ⟨hs1, hs2⟩ := add_small s m (by omega)
    clear hb2
    go_wp2
    exact ⟨⟨k + 1, by omega, by rw [hs1, HN.out], by go_num, ⟨by trivial⟩⟩, by simp [intOf]; omega⟩
   ·
    have hke : k = l0.length := by omega
    subst hke
    rw [List.take_length]
    generalize l0.flatten.length = nn at HG ⊢
    go_wp2_with (go_at_call 71; refine HG.out.mono ?_; rintro e w1 ⟨v, rfl, hR, hB⟩; have HR := Aside0.mk hR; have HB := Aside0.mk hB; clear hR hB)
    go_loopw [6, 27] (fun v i wq => ∃ k : Nat, k ≤ l0.length ∧ i = .int .i64 k ∧ Aside0 (Kd.R (Kd.int .i64) 3 wq w.heap.size (fun _ => True) v (l0.take k).flatten) ∧ Aside0 (Below w.heap.size w wq)) (fun _ i _ => l0.length - (intOf i).toNat)
    case atStart => exact ⟨0, Nat.zero_le _, rfl, HR, HB⟩
    case round =>
     obtain ⟨k, hk, rfl, HR2, HB2⟩ := hrel
     by_cases hlt : k < l0.length
     ·
      obtain ⟨ad, c, e, hc, hK, hx⟩ := Kd.C_get HR0.out ([] : List Int) (k : Int) (by omega) (by omega)
      cases e
      obtain ⟨A, cc, rfl, hcc, hCK⟩ := hK
      have hx0 := hx 0 _ rfl
      simp only [Int.toNat_natCast] at hx0 hCK hcc
      have hx1 : w.cell? (ad.add k) = some (.slice A (l0.getD k []).length cc) := by simpa [Kd.slice] using hx0
      have hx2 := (HB2.out.cell (World.block_lt_of_cell? w _ hx1)).trans hx1
      have HC := Aside0.mk (Kd.C_below hCK HB2.out)
      have HN : Aside0 ((l0.take (k + 1)).flatten = (l0.take k).flatten ++ l0.getD k []) := ⟨flat_take l0 k hlt⟩
      have hb1 := HLE.out (k + 1)
      have HL : Aside0 (((l0.take k).flatten.length + (l0.getD k []).length) * 8 ≤ 140737488355328) := ⟨by rw [HN.out, List.length_append] at hb1; omega⟩
      clear hx hx0 hx1 hCK hb1 hcc
      generalize (l0.take k).flatten = xs at HR2 HN HL
      generalize l0.getD k [] = ys at hx2 HC HN HL
      obtain ⟨Ao, co, eo⟩ := Kd.R_slice HR2.out
      subst eo
      go_wp2_with (((with_reducible refine zqao (b := .append) (xs := #[.tmp 31, .tmp 32]) rfl ?_); at_builtin; refine Kd.R_append_row (Value.int .i64) (0 : Int) (h1 := fun _ => rfl) (w0 := w) w.heap.size rfl (.tmp 31) (.tmp 32) 25 3 (.int .i64 0) 8 rfl Try.underlying25 info3 rfl (by decide) _ xs ys A ys.length cc (fun _ => True) rfl rfl (fun _ _ => trivial) HR2.out HC.out HB2.out HB2.out.size HL.out ?_; intro v1 w3 ho hb hg hat; rw [← HN.out] at ho; have HO := Aside0.mk ho; have HB3 := Aside0.mk hb; clear ho hb hg hat))
      exact ⟨⟨k + 1, by omega, by go_num, HO, HB3⟩, by simp [intOf]; omega⟩
     ·
      have hke : k = l0.length := by omega
      subst hke
      go_wp2
      go_ret
      refine ⟨_, rfl, ?_, HB2.out⟩
      have := HR2.out
      rwa [List.take_length] at this
 ·
  rw [if_neg hlen] at h
  exact absurd h (by simp)


end Go.Proofs.Ytakemodmdhglnaa.PA
