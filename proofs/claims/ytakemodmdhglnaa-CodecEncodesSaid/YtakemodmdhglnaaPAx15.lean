/- Functions of the program, in plain Lean, and their walks (printed; half the indent). Conditions: none. -/
-- PRINTED by print.py (a twelfth state) out of the translation. Not trusted: Lean checks it.
import Derived.Test.YtakemodmdhglnaaPAx0
import Derived.Test.YtakemodmdhglnaaPAx14
namespace Go.Proofs.Ytakemodmdhglnaa.PA
open Go.RowKit Go.Proofs.YtakemodmdhglnaaW.PrintWords Go.Proofs.YtakemodmdhglnaaW.PrintLast Go.Proofs.YtakemodmdhglnaaW.PrintMore
attribute [local go_sem] zqbb zqaz zqbd zqbe zqax zqay zqba zqbc   -- for this text's walks alone
set_option linter.unusedVariables false
set_option linter.unusedSimpArgs false

/-! HAND field_read: function 54 -/
def field_read.f (l0 : List Int) : Option (Bool × Bool × Int × Int × Int × Bool) :=
 if (l0.length : Int) ≤ 13 then some (false, false, 0, 0, 0, false)
 else if rd l0 13 = 1 then
  (if (l0.length : Int) < 39 then some (true, false, 33, 39, 0, false)
  else (bits_Value.f 1000 ((l0.take 39).drop 35)).bind fun v => some (true, rd l0 32 == 1, 33, 39, mn (wrap64 v.1) 8, true))
 else
  (if (l0.length : Int) < 19 then some (false, false, 14, 19, 0, false)
  else (bits_Value.f 1000 ((l0.take 19).drop 15)).bind fun v => some (false, rd l0 12 == 1, 14, 19, mn (wrap64 v.1) 8, true))
theorem head_size : (Try.prog.info? 72).map (·.size) = some 5 := by kernel_rfl
/-- A level, as the walk asks for it. -/
theorem lv_at {w : World} {ad : Addr} {j : Nat} {x : Value} (h : w.cell? (ad.add (j + 1)) = some x) : w.cell? ⟨ad.block, ad.off + (j + 1), none⟩ = some x ∧ (∀ o, (w.alloc o).cell? ⟨ad.block, ad.off + (j + 1), none⟩ = some x) ∧ ∀ o o', ((w.alloc o).alloc o').cell? ⟨ad.block, ad.off + (j + 1), none⟩ = some x := by
 have h1 : w.cell? ⟨ad.block, ad.off + (j + 1), none⟩ = some x := by
  rw [← h]
  unfold Addr.add
  rw [if_neg (by omega)]
 exact ⟨h1, fun o => ((zqad (Below.refl _ _) o).cell (World.block_lt_of_cell? w _ h1)).trans h1, fun o o' => ((zqad (zqad (Below.refl _ _) o) o').cell (World.block_lt_of_cell? w _ h1)).trans h1⟩
/-- A piece of a row that is read. -/
theorem C_mid {w : World} {ad : Addr} {n : Nat} {l : List Int} (h : Kd.C (Kd.int .i64) w (some ad) n l) (a b : Nat) (hab : a ≤ b) (hb : b ≤ n) : Kd.C (Kd.int .i64) w (some (ad.add a)) (b - a) ((l.take b).drop a) := by
 obtain ⟨h1, h2, h3⟩ := h
 have hl : ((l.take b).drop a).length = b - a := by rw [List.length_drop, List.length_take]; omega
 refine ⟨hl, by omega, fun hn => ⟨_, rfl, fun j p hj => ?_⟩⟩
 obtain ⟨ad', e, hc⟩ := h3 (by omega)
 injection e with e
 subst e
 have hlt : j < b - a := by rw [← hl]; exact (List.getElem?_eq_some_iff.1 hj).1
 rw [List.getElem?_drop, List.getElem?_take, if_pos (by omega)] at hj
 obtain ⟨c, hs, hr, hcell⟩ := hc (a + j) p hj
 refine ⟨c, hs, hr, fun i u hu => ?_⟩
 have := hcell i u hu
 have hz : (Kd.int .i64).sz = 1 := rfl
 rw [hz] at this ⊢
 rw [show (ad.add a).add (j * 1 + i) = ad.add ((a + j) * 1 + i) from by unfold Addr.add; split <;> split <;> (try split) <;> simp_all <;> omega]
 exact this
set_option maxHeartbeats 4000000 in
set_option maxRecDepth 100000 in
theorem field_read.calls (A0 : Option Addr) (c0 : Nat) (l0 : List Int) (r1 : Bool) (r2 : Bool) (r3 : Int) (r4 : Int) (r5 : Int) (r6 : Bool) (w : World) (hr0 : Kd.C (Kd.int .i64) w A0 l0.length l0) (hc0 : l0.length ≤ c0) (h : field_read.f l0 = some (r1, r2, r3, r4, r5, r6)) :
  Calls Try.prog 54 #[.slice A0 l0.length c0] w fun e w' => e = .returned (.tuple #[.agg #[.bool r1, .bool r2, .int .i64 r3, .int .i64 r4, .int .i64 r5], .bool r6]) ∧ Below w.heap.size w w' := by
 unfold field_read.f at h
 have hm : l0.length ≤ 9223372036854775807 := hr0.2.1
 by_cases c1 : (l0.length : Int) ≤ 13
 ·
  rw [if_pos c1] at h
  simp only [Option.some.injEq, Prod.mk.injEq] at h
  obtain ⟨rfl, rfl, rfl, rfl, rfl, rfl⟩ := h
  have c1b : l0.length ≤ 13 := by omega
  clear hr0
  go_enter Try.func54, Try.ntmps54
  go_wp2
  refine bodyPost_ret (zqbh rfl _ _ w.heap.size 72 #[.bool false, .bool false, .int .i64 0, .int .i64 0, .int .i64 0] (0, 0) _ rfl (by first | exact heap_alloc_new _ _ | exact (heap_alloc_old _ _ (by simp)).trans (heap_alloc_new _ _)) Try.underlying72 rfl head_size) rfl ?_
  exact ⟨rfl, zqad (Below.refl _ _) _⟩
 rw [if_neg c1] at h
 have c1b : 13 < l0.length := by omega
 obtain ⟨ad, e, hx13⟩ := Kd.at_int hr0 13 (by omega) (by omega)
 subst e
 have hi13 : (13 : Int) < (l0.length : Int) := by omega
 by_cases c2 : rd l0 13 = 1
 ·
  rw [if_pos c2] at h
  rw [c2] at hx13
  obtain ⟨hy13, hz13, hw13⟩ := lv_at (j := 12) hx13
  clear hx13
  by_cases c3 : (l0.length : Int) < 39
  ·
   rw [if_pos c3] at h
   simp only [Option.some.injEq, Prod.mk.injEq] at h
   obtain ⟨rfl, rfl, rfl, rfl, rfl, rfl⟩ := h
   have c3b : l0.length < 39 := by omega
   clear hr0 c2
   go_enter Try.func54, Try.ntmps54
   go_wp2
   refine bodyPost_ret (zqbh rfl _ _ w.heap.size 72 #[.bool true, .bool false, .int .i64 33, .int .i64 39, .int .i64 0] (0, 0) _ rfl (by first | exact heap_alloc_new _ _ | exact (heap_alloc_old _ _ (by simp)).trans (heap_alloc_new _ _)) Try.underlying72 rfl head_size) rfl ?_
   exact ⟨rfl, zqad (zqad (Below.refl _ _) _) _⟩
  ·
   rw [if_neg c3] at h
   have c3b : 39 ≤ l0.length := by omega
   obtain ⟨ad_, e, hx2⟩ := Kd.at_int hr0 32 (by omega) (by omega)
   obtain rfl : ad = ad_ := by injection e
   obtain ⟨hy2, hz2, hx2'⟩ := lv_at (j := 31) hx2
   have hi2 : (32 : Int) < (l0.length : Int) := by omega
   have hi3 : (39 : Int) ≤ (l0.length : Int) := by omega
   cases hv : bits_Value.f 1000 ((l0.take 39).drop 35) with
   | none => rw [hv] at h; exact absurd h (by simp)
   | some q =>
    obtain ⟨v1, v2⟩ := q
    rw [hv] at h
    simp only [Option.bind_some, Option.some.injEq, Prod.mk.injEq] at h
    obtain ⟨rfl, rfl, rfl, rfl, rfl, rfl⟩ := h
    have HR0 := Aside0.mk hr0
    have HV := Aside0.mk (fun (W : World) (c : Nat) (hW : Below w.heap.size w W) (hc : 4 ≤ c) => callsLen (n := ((l0.take 39).drop 35).length) (m := 4) (c := c) (by rw [List.length_drop, List.length_take]; omega) (bits_Value.calls 1000 (some (ad.add 35)) c ((l0.take 39).drop 35) v1 v2 W (by
     have h_ := C_mid (Kd.C_below HR0.out hW) 35 39 (by omega) (by omega)
     rw [List.length_drop, List.length_take, Nat.min_eq_left (by omega)]
     exact h_) (by rw [List.length_drop, List.length_take, Nat.min_eq_left (by omega)]; exact hc) hv))
    clear hr0 hv hx2
    generalize rd l0 32 = x2 at hy2 hz2 hx2' ⊢
    by_cases hv8 : 8 < wrap64 v1
    ·
     rw [show mn (wrap64 v1) 8 = 8 by unfold mn; split <;> omega]
     have HG : Aside0 (∀ X : World, X.heap[w.heap.size]? = some (.cells #[.bool false, .bool false, .int .i64 0, .int .i64 0, .int .i64 0] 72 (0, 0)) → ((((((X.setCell ⟨w.heap.size + 1, 4, none⟩ (.int .i64 8)).setCell ⟨w.heap.size, 0, none⟩ (.bool true)).setCell ⟨w.heap.size, 1, none⟩ (.bool (x2 == 1))).setCell ⟨w.heap.size, 2, none⟩ (.int .i64 33)).setCell ⟨w.heap.size, 3, none⟩ (.int .i64 39)).setCell ⟨w.heap.size, 4, none⟩ (.int .i64 8)).heap[w.heap.size]? = some (.cells #[.bool true, .bool (x2 == 1), .int .i64 33, .int .i64 39, .int .i64 8] 72 (0, 0))) := ⟨fun X hX => by
      refine zqan (cs := #[.bool true, .bool (x2 == 1), .int .i64 33, .int .i64 39, .int .i64 0]) ?_ 4 _ rfl
      refine zqan (cs := #[.bool true, .bool (x2 == 1), .int .i64 33, .int .i64 0, .int .i64 0]) ?_ 3 _ rfl
      refine zqan (cs := #[.bool true, .bool (x2 == 1), .int .i64 0, .int .i64 0, .int .i64 0]) ?_ 2 _ rfl
      refine zqan (cs := #[.bool true, .bool false, .int .i64 0, .int .i64 0, .int .i64 0]) ?_ 1 _ rfl
      refine zqan (cs := #[.bool false, .bool false, .int .i64 0, .int .i64 0, .int .i64 0]) ?_ 0 _ rfl
      exact zqas hX (by simp) _⟩
     go_enter Try.func54, Try.ntmps54
     go_wp2_with (go_at_call 78; refine (HV.out _ _ (zqad (zqad (Below.refl _ _) _) _) (by omega)).mono ?_; rintro e w2 ⟨rfl, ⟨nq, rfl⟩⟩)
     refine bodyPost_ret (zqbh rfl _ _ w.heap.size 72 #[.bool true, .bool (x2 == 1), .int .i64 33, .int .i64 39, .int .i64 8] (0, 0) _ rfl (HG.out _ (zqag ((heap_alloc_old _ _ (by simp)).trans (heap_alloc_new _ _)) _)) Try.underlying72 rfl head_size) rfl ?_
     exact ⟨rfl, zqah (zqah (zqah (zqah (zqah (zqah (zqac (zqad (zqad (Below.refl _ _) _) _) _) (by omega)) (by omega)) (by omega)) (by omega)) (by omega)) (by omega)⟩
    ·
     rw [show mn (wrap64 v1) 8 = (wrap64 v1) by unfold mn; split <;> omega]
     have HG : Aside0 (∀ X : World, X.heap[w.heap.size]? = some (.cells #[.bool false, .bool false, .int .i64 0, .int .i64 0, .int .i64 0] 72 (0, 0)) → ((((((X.setCell ⟨w.heap.size + 1, 4, none⟩ (.int .i64 (wrap64 v1))).setCell ⟨w.heap.size, 0, none⟩ (.bool true)).setCell ⟨w.heap.size, 1, none⟩ (.bool (x2 == 1))).setCell ⟨w.heap.size, 2, none⟩ (.int .i64 33)).setCell ⟨w.heap.size, 3, none⟩ (.int .i64 39)).setCell ⟨w.heap.size, 4, none⟩ (.int .i64 (wrap64 v1))).heap[w.heap.size]? = some (.cells #[.bool true, .bool (x2 == 1), .int .i64 33, .int .i64 39, .int .i64 (wrap64 v1)] 72 (0, 0))) := ⟨fun X hX => by
      refine zqan (cs := #[.bool true, .bool (x2 == 1), .int .i64 33, .int .i64 39, .int .i64 0]) ?_ 4 _ rfl
      refine zqan (cs := #[.bool true, .bool (x2 == 1), .int .i64 33, .int .i64 0, .int .i64 0]) ?_ 3 _ rfl
      refine zqan (cs := #[.bool true, .bool (x2 == 1), .int .i64 0, .int .i64 0, .int .i64 0]) ?_ 2 _ rfl
      refine zqan (cs := #[.bool true, .bool false, .int .i64 0, .int .i64 0, .int .i64 0]) ?_ 1 _ rfl
      refine zqan (cs := #[.bool false, .bool false, .int .i64 0, .int .i64 0, .int .i64 0]) ?_ 0 _ rfl
      exact zqas hX (by simp) _⟩
     go_enter Try.func54, Try.ntmps54
     go_wp2_with (go_at_call 78; refine (HV.out _ _ (zqad (zqad (Below.refl _ _) _) _) (by omega)).mono ?_; rintro e w2 ⟨rfl, ⟨nq, rfl⟩⟩)
     refine bodyPost_ret (zqbh rfl _ _ w.heap.size 72 #[.bool true, .bool (x2 == 1), .int .i64 33, .int .i64 39, .int .i64 (wrap64 v1)] (0, 0) _ rfl (HG.out _ (zqag ((heap_alloc_old _ _ (by simp)).trans (heap_alloc_new _ _)) _)) Try.underlying72 rfl head_size) rfl ?_
     exact ⟨rfl, zqah (zqah (zqah (zqah (zqah (zqah (zqac (zqad (zqad (Below.refl _ _) _) _) _) (by omega)) (by omega)) (by omega)) (by omega)) (by omega)) (by omega)⟩
 ·
  rw [if_neg c2] at h
  obtain ⟨hy13, hz13, hw13⟩ := lv_at (j := 12) hx13
  have c2b : (rd l0 13 == 1) = false := beq_eq_false_iff_ne.mpr c2
  clear hx13
  by_cases c3 : (l0.length : Int) < 19
  ·
   rw [if_pos c3] at h
   simp only [Option.some.injEq, Prod.mk.injEq] at h
   obtain ⟨rfl, rfl, rfl, rfl, rfl, rfl⟩ := h
   have c3b : l0.length < 19 := by omega
   generalize rd l0 13 = x13 at hy13 hz13 hw13 c2 c2b
   clear hr0
   go_enter Try.func54, Try.ntmps54
   go_wp2
   refine bodyPost_ret (zqbh rfl _ _ w.heap.size 72 #[.bool false, .bool false, .int .i64 14, .int .i64 19, .int .i64 0] (0, 0) _ rfl (by first | exact heap_alloc_new _ _ | exact (heap_alloc_old _ _ (by simp)).trans (heap_alloc_new _ _)) Try.underlying72 rfl head_size) rfl ?_
   exact ⟨rfl, zqad (zqad (Below.refl _ _) _) _⟩
  ·
   rw [if_neg c3] at h
   have c3b : 19 ≤ l0.length := by omega
   obtain ⟨ad_, e, hx2⟩ := Kd.at_int hr0 12 (by omega) (by omega)
   obtain rfl : ad = ad_ := by injection e
   obtain ⟨hy2, hz2, hx2'⟩ := lv_at (j := 11) hx2
   have hi2 : (12 : Int) < (l0.length : Int) := by omega
   have hi3 : (19 : Int) ≤ (l0.length : Int) := by omega
   cases hv : bits_Value.f 1000 ((l0.take 19).drop 15) with
   | none => rw [hv] at h; exact absurd h (by simp)
   | some q =>
    obtain ⟨v1, v2⟩ := q
    rw [hv] at h
    simp only [Option.bind_some, Option.some.injEq, Prod.mk.injEq] at h
    obtain ⟨rfl, rfl, rfl, rfl, rfl, rfl⟩ := h
    have HR0 := Aside0.mk hr0
    have HV := Aside0.mk (fun (W : World) (c : Nat) (hW : Below w.heap.size w W) (hc : 4 ≤ c) => callsLen (n := ((l0.take 19).drop 15).length) (m := 4) (c := c) (by rw [List.length_drop, List.length_take]; omega) (bits_Value.calls 1000 (some (ad.add 15)) c ((l0.take 19).drop 15) v1 v2 W (by
     have h_ := C_mid (Kd.C_below HR0.out hW) 15 19 (by omega) (by omega)
     rw [List.length_drop, List.length_take, Nat.min_eq_left (by omega)]
     exact h_) (by rw [List.length_drop, List.length_take, Nat.min_eq_left (by omega)]; exact hc) hv))
    clear hr0 hv hx2
    generalize rd l0 12 = x2 at hy2 hz2 hx2' ⊢
    by_cases hv8 : 8 < wrap64 v1
    ·
     rw [show mn (wrap64 v1) 8 = 8 by unfold mn; split <;> omega]
     have HG : Aside0 (∀ X : World, X.heap[w.heap.size]? = some (.cells #[.bool false, .bool false, .int .i64 0, .int .i64 0, .int .i64 0] 72 (0, 0)) → ((((((X.setCell ⟨w.heap.size + 1, 4, none⟩ (.int .i64 8)).setCell ⟨w.heap.size, 0, none⟩ (.bool false)).setCell ⟨w.heap.size, 1, none⟩ (.bool (x2 == 1))).setCell ⟨w.heap.size, 2, none⟩ (.int .i64 14)).setCell ⟨w.heap.size, 3, none⟩ (.int .i64 19)).setCell ⟨w.heap.size, 4, none⟩ (.int .i64 8)).heap[w.heap.size]? = some (.cells #[.bool false, .bool (x2 == 1), .int .i64 14, .int .i64 19, .int .i64 8] 72 (0, 0))) := ⟨fun X hX => by
      refine zqan (cs := #[.bool false, .bool (x2 == 1), .int .i64 14, .int .i64 19, .int .i64 0]) ?_ 4 _ rfl
      refine zqan (cs := #[.bool false, .bool (x2 == 1), .int .i64 14, .int .i64 0, .int .i64 0]) ?_ 3 _ rfl
      refine zqan (cs := #[.bool false, .bool (x2 == 1), .int .i64 0, .int .i64 0, .int .i64 0]) ?_ 2 _ rfl
      refine zqan (cs := #[.bool false, .bool false, .int .i64 0, .int .i64 0, .int .i64 0]) ?_ 1 _ rfl
      refine zqan (cs := #[.bool false, .bool false, .int .i64 0, .int .i64 0, .int .i64 0]) ?_ 0 _ rfl
      exact zqas hX (by simp) _⟩
     go_enter Try.func54, Try.ntmps54
     go_wp2_with (go_at_call 78; refine (HV.out _ _ (zqad (zqad (Below.refl _ _) _) _) (by omega)).mono ?_; rintro e w2 ⟨rfl, ⟨nq, rfl⟩⟩)
     refine bodyPost_ret (zqbh rfl _ _ w.heap.size 72 #[.bool false, .bool (x2 == 1), .int .i64 14, .int .i64 19, .int .i64 8] (0, 0) _ rfl (HG.out _ (zqag ((heap_alloc_old _ _ (by simp)).trans (heap_alloc_new _ _)) _)) Try.underlying72 rfl head_size) rfl ?_
     exact ⟨rfl, zqah (zqah (zqah (zqah (zqah (zqah (zqac (zqad (zqad (Below.refl _ _) _) _) _) (by omega)) (by omega)) (by omega)) (by omega)) (by omega)) (by omega)⟩
    ·
     rw [show mn (wrap64 v1) 8 = (wrap64 v1) by unfold mn; split <;> omega]
     have HG : Aside0 (∀ X : World, X.heap[w.heap.size]? = some (.cells #[.bool false, .bool false, .int .i64 0, .int .i64 0, .int .i64 0] 72 (0, 0)) → ((((((X.setCell ⟨w.heap.size + 1, 4, none⟩ (.int .i64 (wrap64 v1))).setCell ⟨w.heap.size, 0, none⟩ (.bool false)).setCell ⟨w.heap.size, 1, none⟩ (.bool (x2 == 1))).setCell ⟨w.heap.size, 2, none⟩ (.int .i64 14)).setCell ⟨w.heap.size, 3, none⟩ (.int .i64 19)).setCell ⟨w.heap.size, 4, none⟩ (.int .i64 (wrap64 v1))).heap[w.heap.size]? = some (.cells #[.bool false, .bool (x2 == 1), .int .i64 14, .int .i64 19, .int .i64 (wrap64 v1)] 72 (0, 0))) := ⟨fun X hX => by
      refine zqan (cs := #[.bool false, .bool (x2 == 1), .int .i64 14, .int .i64 19, .int .i64 0]) ?_ 4 _ rfl
      refine zqan (cs := #[.bool false, .bool (x2 == 1), .int .i64 14, .int .i64 0, .int .i64 0]) ?_ 3 _ rfl
      refine zqan (cs := #[.bool false, .bool (x2 == 1), .int .i64 0, .int .i64 0, .int .i64 0]) ?_ 2 _ rfl
      refine zqan (cs := #[.bool false, .bool false, .int .i64 0, .int .i64 0, .int .i64 0]) ?_ 1 _ rfl
      refine zqan (cs := #[.bool false, .bool false, .int .i64 0, .int .i64 0, .int .i64 0]) ?_ 0 _ rfl
      exact zqas hX (by simp) _⟩
     go_enter Try.func54, Try.ntmps54
     go_wp2_with (go_at_call 78; refine (HV.out _ _ (zqad (zqad (Below.refl _ _) _) _) (by omega)).mono ?_; rintro e w2 ⟨rfl, ⟨nq, rfl⟩⟩)
     refine bodyPost_ret (zqbh rfl _ _ w.heap.size 72 #[.bool false, .bool (x2 == 1), .int .i64 14, .int .i64 19, .int .i64 (wrap64 v1)] (0, 0) _ rfl (HG.out _ (zqag ((heap_alloc_old _ _ (by simp)).trans (heap_alloc_new _ _)) _)) Try.underlying72 rfl head_size) rfl ?_
     exact ⟨rfl, zqah (zqah (zqah (zqah (zqah (zqah (zqac (zqad (zqad (Below.refl _ _) _) _) _) (by omega)) (by omega)) (by omega)) (by omega)) (by omega)) (by omega)⟩


end Go.Proofs.Ytakemodmdhglnaa.PA
